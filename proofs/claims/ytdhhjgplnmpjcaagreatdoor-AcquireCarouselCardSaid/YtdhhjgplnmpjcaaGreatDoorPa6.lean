/-
  Joined: SvR, AqU, AqV, AqVa, AqVb, AqX, AqY, AqZ, AqZa, AqN1, AqN2, BmA, BmB, BmC, BmD, BmE, DfA, CaA, CaB, CaC, AqN3, PlA, CaD, CaE, CaF, CaG, CaH, CaI, CaJ, CaK, CaL, CaM, CaN, CaO.
-/
import Derived.Test.YtdhhjgplnmpjcaaGreatDoorPa5
set_option linter.unusedVariables false
namespace Go.Proofs.YtdhhjgplnmpjcaaGreatDoor.sv
open Go Go.Nx Go.Proofs.YtdhhjgplnmpjcaaGreatDoor.pk Go.Proofs.YtdhhjgplnmpjcaaGreatDoor.ln Go.Proofs.YtdhhjgplnmpjcaaGreatDoor.hd Go.Proofs.YtdhhjgplnmpjcaaGreatDoor.lb
def odd (x : Int) : Bool := !isEv x
noncomputable def aU (a b : Int) : Int := bits .and .u8 a b
noncomputable def oU (a b : Int) : Int := bits .or .u8 a b
theorem podd_tree (b : Int) (R : Out → Prop) : (t_podd [.c (.i .u8 b)] []).run R = sel (decide (0 ≤ b)) (sel (decide (b < (tab.size : Int))) (R (oB ((IntKind.i64.wrap (byteAt tab b.toNat)).tmod 2 == 1))) False) False := by kernel_rfl
theorem tab_odd : ∀ n < 256, ((IntKind.i64.wrap (byteAt tab n)).tmod 2 == 1) = odd (Int.ofNat n) := by decide +kernel
noncomputable def tOddV : Con := fun args regs => match args, regs with
  | [.c (.i .u8 b)], [] => .must (0 ≤ b ∧ b < 256) (.ret (oB (odd b)))
  | _, _ => .fail
set_option maxRecDepth 100000 in
theorem kOddV : Known Tryz.prog GL 149 tOddV := by
  refine (known_gl k_podd).less fun args regs R h => Box.out ?_
  unfold tOddV at h
  split at h
  case h_2 => exact h.elim
  rename_i b
  have h1 := h.1
  have h2 : R (oB (odd b)) := h.2
  clear h
  refine Box.of_eq (podd_tree b R) (selT (dT h1.1) (selT (dT (by rw [tab_size]; exact h1.2)) ?_))
  obtain ⟨n, hn, rfl⟩ := byte_nat h1
  rw [show (Int.ofNat n).toNat = n from rfl, tab_odd n hn]
  exact h2
noncomputable def mkO (c : Int) : Int := bif odd (aU c 127) then aU c 127 else oU (aU c 127) 128
theorem aU_in (a b : Int) : 0 ≤ aU a b ∧ aU a b < 256 := by
  unfold aU bits
  rw [IntKind.wrap_u8]
  omega
theorem oU_in (a b : Int) : 0 ≤ oU a b ∧ oU a b < 256 := by
  unfold oU bits
  rw [IntKind.wrap_u8]
  omega
theorem mkO_in (c : Int) : 0 ≤ mkO c ∧ mkO c < 256 := by
  unfold mkO
  cases odd (aU c 127) with
  | true => exact aU_in _ _
  | false => exact oU_in _ _
noncomputable def tMkO : Con := fun args regs => match args, regs with
  | [.c (.i .u8 c)], [] => .ret ⟨.v (.c (.i .u8 (mkO c))), []⟩
  | _, _ => .fail
def revN (x : Nat) : Nat := (List.range 8).foldl (fun a i => a + (x / 2 ^ i % 2) * 2 ^ (7 - i)) 0
def rv (b : Int) : Int := (revN b.toNat : Int)
noncomputable def rtab : ByteArray := ⟨((List.range 256).map fun i => UInt8.ofNat (revN i)).toArray⟩
theorem turn_tree (b : Int) (R : Out → Prop) : (t_pturn [.c (.i .u8 b)] []).run R = sel (decide (0 ≤ b)) (sel (decide (b < (rtab.size : Int))) (R ⟨.v (.c (.i .u8 (byteAt rtab b.toNat))), []⟩) False) False := by kernel_rfl
theorem rtab_size : rtab.size = 256 := by decide +kernel
theorem rtab_rev : ∀ n < 256, byteAt rtab n = rv (Int.ofNat n) := by decide +kernel
noncomputable def tTurn : Con := fun args regs => match args, regs with
  | [.c (.i .u8 b)], [] => .must (0 ≤ b ∧ b < 256) (.ret ⟨.v (.c (.i .u8 (rv b))), []⟩)
  | _, _ => .fail
set_option maxRecDepth 100000 in
theorem kTurn : Known Tryz.prog GL 87 tTurn := by
  refine k_pturn.less fun args regs R h => Box.out ?_
  unfold tTurn at h
  split at h
  case h_2 => exact h.elim
  rename_i b
  have h1 := h.1
  have h2 : R ⟨.v (.c (.i .u8 (rv b))), []⟩ := h.2
  clear h
  refine Box.of_eq (turn_tree b R) (selT (dT h1.1) (selT (dT (by rw [rtab_size]; exact h1.2)) ?_))
  obtain ⟨n, hn, rfl⟩ := byte_nat h1
  rw [show (Int.ofNat n).toNat = n from rfl, rtab_rev n hn]
  exact h2
noncomputable abbrev fDigs := Tryz.f132
noncomputable def X_dg : Cx := { P := Tryz.prog, con := fun _ => Option.none, glob := GL, m := 0, loops := [] }
noncomputable def sDg (bs : List Int) (n k : Int) : St := { fr := frame 41 [(0, .v (.c (.l .u8 bs))), (6, .v (.c (.i .i64 n))), (7, .v (.c (.i .i64 k)))], rg := [] }
noncomputable def dDg (n : Int) : St := { fr := frame 41 [(6, .v (.c (.i .i64 n)))], rg := [] }
noncomputable def rDg (n : Int) : St := { fr := frame 41 [(4, .v (.c (.i .i64 0))), (5, .v (.c (.b false))), (6, .v (.c (.i .i64 n)))], rg := [] }
noncomputable def kD (k : Int) : Int := IntKind.i64.wrap (k.tdiv 2)
noncomputable def shD (k : Int) : Int := IntKind.i64.wrap (4 - IntKind.i64.wrap (4 * k.tmod 2))
noncomputable def dAt (bs : List Int) (k : Int) : Int := IntKind.i64.wrap (IntKind.i64.wrap (aU (shrv .u8 (bs.getD (kD k).toNat 0) (shD k)) 15) - 1)
noncomputable def ac (n d : Int) : Int := IntKind.i64.wrap (IntKind.i64.wrap (10 * n) + d)
theorem round_dg (bs : List Int) (n k : Int) (R : RO → Prop) : (roundT X_dg 0 [0, 6, 7] [4, 5, 6] (bodyLoop fDigs 0) (sDg bs n k)).run R =
    sel (decide (k < IntKind.i64.wrap (2 * (bs.length : Int)))) (sel (decide (0 ≤ kD k)) (sel (decide (kD k < (bs.length : Int))) (sel (decide ((kD k).toNat < bs.length)) (sel (decide (0 ≤ shD k)) (sel (decide (dAt bs k < 0)) (R (.done .ret (rDg n))) (sel (decide (dAt bs k > 9)) (R (.done .ret (rDg n))) (R (.next (sDg bs (ac n (dAt bs k)) (IntKind.i64.wrap (k + 1))))))) False) False) False) False) (R (.done .normal (dDg n))) := by kernel_rfl
def okd (d : Int) : Bool := !(decide (d < 0) || decide (d > 9))
noncomputable def goD (bs : List Int) : Nat → Nat → Int → Bool × Int
  | 0, _, n => (true, n)
  | r + 1, k, n => bif okd (dAt bs (k : Int)) then goD bs r (k + 1) (ac n (dAt bs (k : Int))) else (false, n)
noncomputable def pDg : List Pat := pats 41 [(0, .l .u8), (6, .i .i64), (7, .i .i64)]
noncomputable def lDg : List Leaf × List (List Leaf) → Tr (NExit × St) := fun x => match x with
  | ([.l bs, .i n, .i k], []) => .must (bs.length < 1000 ∧ 0 ≤ k ∧ k ≤ 2 * (bs.length : Int)) (.br (goD bs (2 * bs.length - k.toNat) k.toNat n).1 (.ret (.normal, dDg (goD bs (2 * bs.length - k.toNat) k.toNat n).2)) (.ret (.ret, rDg (goD bs (2 * bs.length - k.toNat) k.toNat n).2)))
  | _ => .fail
def muDg : List Leaf × List (List Leaf) → Nat := fun x => match x with
  | ([.l bs, .i _, .i k], _) => (2 * (bs.length : Int) - k).toNat
  | _ => 0
set_option maxRecDepth 100000 in
theorem loop_dg : LOk Tryz.prog GL 0 0 (bodyLoop fDigs 0) (sumP pDg [] lDg) := by
  refine sumP_ok (X := X_dg) con_none mixed (LAll.none (by kernel_rfl)) [0, 6, 7] [4, 5, 6] _ _ _ muDg ?_
  rintro ⟨p, q⟩ R h
  unfold lDg at h
  split at h
  case h_2 => exact h.elim
  rename_i bs n k he
  cases he
  have h1 := h.1
  have h2 : sel (goD bs (2 * bs.length - k.toNat) k.toNat n).1 (R (.normal, dDg (goD bs (2 * bs.length - k.toNat) k.toNat n).2)) (R (.ret, rDg (goD bs (2 * bs.length - k.toNat) k.toNat n).2)) := h.2
  clear h
  obtain ⟨hl, hk0, hk⟩ := h1
  show (roundT X_dg 0 [0, 6, 7] [4, 5, 6] (bodyLoop fDigs 0) (sDg bs n k)).run _
  rw [round_dg]
  have w1 : IntKind.i64.wrap (2 * (bs.length : Int)) = 2 * (bs.length : Int) := by rw [IntKind.wrap_i64]; omega
  rw [w1]
  refine sel_by (fun hlt => ?_) fun hge => ?_
  · have ek : kD k = k / 2 := by
      unfold kD
      rw [Int.tdiv_eq_ediv_of_nonneg hk0, IntKind.wrap_i64]
      omega
    have es : shD k = 4 - 4 * (k % 2) := by
      unfold shD
      rw [Int.tmod_eq_emod_of_nonneg hk0, IntKind.wrap_i64, IntKind.wrap_i64]
      omega
    have w2 : IntKind.i64.wrap (k + 1) = k + 1 := by rw [IntKind.wrap_i64]; omega
    rw [ek, es, w2]
    refine selT (dT (by omega)) (selT (dT (by omega)) (selT (dT (by omega)) (selT (dT (by omega)) ?_)))
    obtain ⟨r, hr⟩ : ∃ r, 2 * bs.length - k.toNat = r + 1 := ⟨2 * bs.length - k.toNat - 1, by omega⟩
    have er : 2 * bs.length - (k + 1).toNat = r := by omega
    have ekn : (k + 1).toNat = k.toNat + 1 := by omega
    rw [hr] at h2
    have eu : goD bs (r + 1) k.toNat n = bif okd (dAt bs (k.toNat : Int)) then goD bs r (k.toNat + 1) (ac n (dAt bs (k.toNat : Int))) else (false, n) := rfl
    rw [eu, show ((k.toNat : Nat) : Int) = k by omega] at h2
    unfold okd at h2
    cases e1 : decide (dAt bs k < 0) with
    | true => rw [e1] at h2; exact selT rfl h2
    | false =>
      refine selF rfl ?_
      cases e2 : decide (dAt bs k > 9) with
      | true => rw [e1, e2] at h2; exact selT rfl h2
      | false =>
        rw [e1, e2] at h2
        have h2 : sel (goD bs r (k.toNat + 1) (ac n (dAt bs k))).1 (R (.normal, dDg (goD bs r (k.toNat + 1) (ac n (dAt bs k))).2)) (R (.ret, rDg (goD bs r (k.toNat + 1) (ac n (dAt bs k))).2)) := h2
        refine selF rfl ⟨([.l bs, .i (ac n (dAt bs k)), .i (k + 1)], []), rfl, by show (2 * (bs.length : Int) - (k + 1)).toNat < (2 * (bs.length : Int) - k).toNat; omega, ⟨hl, by omega, by omega⟩, ?_⟩
        rw [er, ekn]
        exact h2
  · have e0 : 2 * bs.length - k.toNat = 0 := by omega
    rw [e0] at h2
    exact h2
noncomputable def t_digs : Con := fun args regs => if regs.length = 0 then nfun Tryz.prog GL (fun _ => Option.none) [(0, [0, 6, 7], sumP pDg [] lDg)] Tryz.f132 args regs else .fail
theorem k_digs : Known Tryz.prog GL 132 t_digs := known_loops 0 Tryz.func132 rfl (by kernel_rfl) mixed con_none (LAll.one (id := 0) (body := bodyLoop Tryz.f132 0) (by kernel_rfl) rfl loop_dg)
noncomputable def oDg (b : Bool) (n : Int) : Out := ⟨.tu [.c (.i .i64 (bif b then n else 0)), .c (.b b)], []⟩
theorem digs_tree (bs : List Int) (k : Int) (R : Out → Prop) : (t_digs [.c (.l .u8 bs), .c (.i .i64 k)] []).run R = ((bs.length < 1000 ∧ 0 ≤ k ∧ k ≤ 2 * (bs.length : Int)) ∧ sel (goD bs (2 * bs.length - k.toNat) k.toNat 0).1 (R (oDg true (goD bs (2 * bs.length - k.toNat) k.toNat 0).2)) (R (oDg false 0))) := by kernel_rfl
noncomputable def okD (bs : List Int) (k : Int) : Bool := (goD bs (2 * bs.length - k.toNat) k.toNat 0).1
noncomputable def vaD (bs : List Int) (k : Int) : Int := (goD bs (2 * bs.length - k.toNat) k.toNat 0).2
noncomputable def tDigV : Con := fun args regs => match args, regs with
  | [.c (.l .u8 bs), .c (.i .i64 k)], [] => .must (bs.length < 1000 ∧ 0 ≤ k ∧ k ≤ 2 * (bs.length : Int)) (.ret (oDg (okD bs k) (vaD bs k)))
  | _, _ => .fail
set_option maxRecDepth 100000 in
theorem kDigV : Known Tryz.prog GL 132 tDigV := by
  refine k_digs.less fun args regs R h => Box.out ?_
  unfold tDigV at h
  split at h
  case h_2 => exact h.elim
  rename_i bs k
  have h1 := h.1
  have h2 : R (oDg (okD bs k) (vaD bs k)) := h.2
  clear h
  refine Box.of_eq (digs_tree bs k R) ⟨h1, ?_⟩
  unfold okD vaD at h2
  cases e : (goD bs (2 * bs.length - k.toNat) k.toNat 0).1 with
  | true => rw [e] at h2; exact selT rfl h2
  | false => rw [e] at h2; exact selF rfl h2
noncomputable abbrev fWords := Tryz.f90
def txc (z : ByteArray) (k : Nat) : Int := bif decide ((k : Int) < (z.size : Int)) then byteAt z k else 32
noncomputable def txA (z : ByteArray) (k : Nat) : List Int := (List.range k).map fun j => mkO (txc z j)
end Go.Proofs.YtdhhjgplnmpjcaaGreatDoor.sv
namespace Go.Proofs.YtdhhjgplnmpjcaaGreatDoor.sv
open Go Go.Nx Go.Proofs.YtdhhjgplnmpjcaaGreatDoor.pk Go.Proofs.YtdhhjgplnmpjcaaGreatDoor.ln Go.Proofs.YtdhhjgplnmpjcaaGreatDoor.hd Go.Proofs.YtdhhjgplnmpjcaaGreatDoor.lb
noncomputable def c_ptx : FuncId → Option Con := conOf [(149, tOddV)]
theorem kc_ptx : ∀ f T, c_ptx f = some T → Known Tryz.prog GL f T := (Knowns.cons kOddV .nil).get
noncomputable def X_ptx : Cx := { P := Tryz.prog, con := c_ptx, glob := GL, m := 0, loops := [] }
noncomputable def t_ptx : Con := fun args regs => if regs.length = 0 then nfun Tryz.prog GL c_ptx [(0, [4, 5, 8, 9, 10], unroll X_ptx 0 [4, 5, 8, 9, 10] [4, 5] (bodyLoop Tryz.f134 0) 21)] Tryz.f134 args regs else .fail
theorem k_ptx : Known Tryz.prog GL 134 t_ptx := known_loops 0 Tryz.func134 rfl (by kernel_rfl) mixed kc_ptx (LAll.one (id := 0) (body := bodyLoop Tryz.f134 0) (by kernel_rfl) rfl (unroll_ok (X := X_ptx) kc_ptx mixed (LAll.none (by kernel_rfl)) [4, 5, 8, 9, 10] [4, 5] 21))
noncomputable def oPT (bs : List Int) : Out := ⟨.tu [.c (.h 0 0 20), .c (.h 1 0 20)], [some ⟨1, 5, .ints .u8 (bs.map fun x => aU x 127)⟩, some ⟨1, 4, .recs [.b] (bs.map fun x => [Sc.b (odd x)])⟩]⟩
theorem ptx_tree (g : Nat → Int) (R : Out → Prop) : (t_ptx [.c (.l .u8 ((List.range 20).map g))] []).run R = ((0 ≤ g 0 ∧ g 0 < 256) ∧ ((0 ≤ g 1 ∧ g 1 < 256) ∧ ((0 ≤ g 2 ∧ g 2 < 256) ∧ ((0 ≤ g 3 ∧ g 3 < 256) ∧ ((0 ≤ g 4 ∧ g 4 < 256) ∧ ((0 ≤ g 5 ∧ g 5 < 256) ∧ ((0 ≤ g 6 ∧ g 6 < 256) ∧ ((0 ≤ g 7 ∧ g 7 < 256) ∧ ((0 ≤ g 8 ∧ g 8 < 256) ∧ ((0 ≤ g 9 ∧ g 9 < 256) ∧ ((0 ≤ g 10 ∧ g 10 < 256) ∧ ((0 ≤ g 11 ∧ g 11 < 256) ∧ ((0 ≤ g 12 ∧ g 12 < 256) ∧ ((0 ≤ g 13 ∧ g 13 < 256) ∧ ((0 ≤ g 14 ∧ g 14 < 256) ∧ ((0 ≤ g 15 ∧ g 15 < 256) ∧ ((0 ≤ g 16 ∧ g 16 < 256) ∧ ((0 ≤ g 17 ∧ g 17 < 256) ∧ ((0 ≤ g 18 ∧ g 18 < 256) ∧ ((0 ≤ g 19 ∧ g 19 < 256) ∧ R (oPT ((List.range 20).map g)))))))))))))))))))))) := by kernel_rfl
noncomputable def tPT : Con := fun args regs => match args, regs with
  | [.c (.l .u8 bs)], [] => .must (bs.length = 20 ∧ ∀ x ∈ bs, 0 ≤ x ∧ x < 256) (.ret (oPT bs))
  | _, _ => .fail
theorem range_n {ds : List Int} {n : Nat} (h : ds.length = n) : ds = (List.range n).map fun i => ds.getD i 0 := by
  refine List.ext_getElem (by simp [h]) fun j h1 h2 => ?_
  rw [List.getElem_map, List.getElem_range, List.getD_eq_getElem?_getD, List.getElem?_eq_getElem h1]
  rfl
theorem g_in {g : Nat → Int} {n : Nat} (h : ∀ x ∈ (List.range n).map g, 0 ≤ x ∧ x < 256) (j : Nat) (hj : j < n) : 0 ≤ g j ∧ g j < 256 := h _ (List.mem_map.2 ⟨j, List.mem_range.2 hj, rfl⟩)
theorem ptx_in {bs : List Int} {R : Out → Prop} (hl : bs.length = 20) (hb : ∀ x ∈ bs, 0 ≤ x ∧ x < 256) (h : R (oPT bs)) : Box ((t_ptx [.c (.l .u8 bs)] []).run R) := by
  have e := range_n hl
  generalize (fun i => bs.getD i 0) = g at e
  subst e
  have hi := g_in hb
  exact Box.of_eq (ptx_tree g R) ⟨hi 0 (by decide), hi 1 (by decide), hi 2 (by decide), hi 3 (by decide), hi 4 (by decide), hi 5 (by decide), hi 6 (by decide), hi 7 (by decide), hi 8 (by decide), hi 9 (by decide), hi 10 (by decide), hi 11 (by decide), hi 12 (by decide), hi 13 (by decide), hi 14 (by decide), hi 15 (by decide), hi 16 (by decide), hi 17 (by decide), hi 18 (by decide), hi 19 (by decide), h⟩
set_option maxRecDepth 100000 in
theorem kPT : Known Tryz.prog GL 134 tPT := by
  refine k_ptx.less fun args regs R h => Box.out ?_
  unfold tPT at h
  split at h
  case h_2 => exact h.elim
  have h1 := h.1
  have h2 := h.2
  clear h
  exact ptx_in h1.1 h1.2 h2
theorem mapF_stop (g : Nat → Int → Int) (i : Nat) : ∀ (k : Nat) (xs : List Int), k + xs.length ≤ i → mapF g i k xs = xs
  | _, [], _ => rfl
  | k, x :: xs, h => by
    have h : k + (xs.length + 1) ≤ i := h
    show (bif Nat.blt k i then x else _) :: mapF g i (k + 1) xs = _
    rw [blt_t (by omega), mapF_stop g i (k + 1) xs (by omega)]
    rfl
theorem set_self (xs : List Int) (i : Nat) (h : i < xs.length) : xs.set i (xs.getD i 0) = xs := by
  rw [List.getD_eq_getElem?_getD, List.getElem?_eq_getElem h]
  exact List.set_getElem_self h
noncomputable def X_wd : Cx := { P := Tryz.prog, con := fun _ => Option.none, glob := GL, m := 0, loops := [] }
noncomputable def sWd (A : List Int) (B : List (List Sc)) (q q2 : Nat) (n i : Int) : St := { fr := frame 34 [(3, .v (.c (.h 0 0 q))), (4, .v (.c (.h 1 0 q2))), (12, .v (.c (.i .i64 n))), (13, .v (.c (.i .i64 i)))], rg := [some ⟨1, 5, .ints .u8 A⟩, some ⟨1, 4, .recs [.b] B⟩] }
noncomputable def dWd (A : List Int) (q : Nat) : St := { fr := frame 34 [(3, .v (.c (.h 0 0 q)))], rg := [some ⟨1, 5, .ints .u8 A⟩] }
def bW (B : List (List Sc)) (j : Nat) : Bool := ((B.getD j []).getD 0 (Sc.i 0)).t
def inW (A : List Int) (q : Nat) (i : Int) (X : Prop) : Prop := sel (decide (0 ≤ i)) (sel (decide (i < (q : Int))) (sel (decide (0 + i.toNat < A.length)) X False) False) False
def inWB (B : List (List Sc)) (q : Nat) (i : Int) (X : Prop) : Prop := sel (decide (0 ≤ i)) (sel (decide (i < (q : Int))) (sel (decide (0 + i.toNat < B.length)) X False) False) False
theorem round_wd (A : List Int) (B : List (List Sc)) (q q2 : Nat) (n i : Int) (R : RO → Prop) : (roundT X_wd 0 [3, 4, 12, 13] [3] (bodyLoop fWords 0) (sWd A B q q2 n i)).run R =
    sel (decide (i < n)) (inWB B q2 i (sel (!bW B (0 + i.toNat)) (inW A q i (R (.next (sWd (setI A (0 + i.toNat) 32 0) B q q2 n (IntKind.i64.wrap (i + 1)))))) (inW A q i (sel (decide (A.getD (0 + i.toNat) 0 < 32)) (inW A q i (R (.next (sWd (setI A (0 + i.toNat) 32 0) B q q2 n (IntKind.i64.wrap (i + 1)))))) (R (.next (sWd A B q q2 n (IntKind.i64.wrap (i + 1))))))))) (R (.done .normal (dWd A q))) := by kernel_rfl
noncomputable def wdG (B : List (List Sc)) (k : Nat) (x : Int) : Int := bif !bW B k || decide (x < 32) then 32 else x
noncomputable def pWd : List Pat := pats 34 [(3, .h 0 0), (4, .h 1 0), (12, .i .i64), (13, .i .i64)]
def rWd : List RPat := [.ints 1 5 .u8, .recs 1 4 [.b]]
noncomputable def lWd : List Leaf × List (List Leaf) → Tr (NExit × St) := fun x => match x with
  | ([.n q, .n q2, .i n, .i i], [[.l A], [.r B]]) => .must (q = A.length ∧ q2 = A.length ∧ B.length = A.length ∧ n = (A.length : Int) ∧ A.length < 1000 ∧ 0 ≤ i ∧ i ≤ n) (.ret (.normal, dWd (mapF (wdG B) i.toNat 0 A) q))
  | _ => .fail
def muWd : List Leaf × List (List Leaf) → Nat := fun x => match x with
  | ([.n _, .n _, .i n, .i i], _) => (n - i).toNat
  | _ => 0
set_option maxRecDepth 100000 in
theorem loop_wd : LOk Tryz.prog GL 0 0 (bodyLoop fWords 0) (sumP pWd rWd lWd) := by
  refine sumP_ok (X := X_wd) con_none mixed (LAll.none (by kernel_rfl)) [3, 4, 12, 13] [3] _ _ _ muWd ?_
  rintro ⟨p, q⟩ R h
  unfold lWd at h
  split at h
  case h_2 => exact h.elim
  rename_i q q2 n i A B he
  cases he
  have h1 := h.1
  have h2 : R (.normal, dWd (mapF (wdG B) i.toNat 0 A) q) := h.2
  clear h
  obtain ⟨hq, hq2, hB, hn, hA, hi0, hi⟩ := h1
  show (roundT X_wd 0 [3, 4, 12, 13] [3] (bodyLoop fWords 0) (sWd A B q q2 n i)).run _
  rw [round_wd]
  refine sel_by (fun hlt => ?_) fun hge => ?_
  · have w2 : IntKind.i64.wrap (i + 1) = i + 1 := by rw [IntKind.wrap_i64]; omega
    have hx : i.toNat < A.length := by omega
    have et : (i + 1).toNat = i.toNat + 1 := by omega
    rw [w2, Nat.zero_add]
    have iA : ∀ X : Prop, X → inW A q i X := fun X h => selT (dT hi0) (selT (dT (by omega)) (selT (dT (by omega)) h))
    have iB : ∀ X : Prop, X → inWB B q2 i X := fun X h => selT (dT hi0) (selT (dT (by omega)) (selT (dT (by omega)) h))
    have go : ∀ A2 : List Int, A2.length = A.length → mapF (wdG B) (i.toNat + 1) 0 A2 = mapF (wdG B) i.toNat 0 A → ∃ y, sWd A2 B q q2 n (i + 1) = mkSt pWd rWd y ∧ muWd y < muWd ([.n q, .n q2, .i n, .i i], [[.l A], [.r B]]) ∧ (lWd y).run R := by
      intro A2 hl hm
      refine ⟨([.n q, .n q2, .i n, .i (i + 1)], [[.l A2], [.r B]]), rfl, by show (n - (i + 1)).toNat < (n - i).toNat; omega, ⟨by omega, by omega, by omega, by omega, by omega, by omega, by omega⟩, ?_⟩
      show R (.normal, dWd (mapF (wdG B) (i + 1).toNat 0 A2) q)
      rw [et, hm]
      exact h2
    have st : wdG B i.toNat (A.getD i.toNat 0) = 32 → ∃ y, sWd (setI A i.toNat 32 0) B q q2 n (i + 1) = mkSt pWd rWd y ∧ muWd y < muWd ([.n q, .n q2, .i n, .i i], [[.l A], [.r B]]) ∧ (lWd y).run R := fun hg => by
      rw [setI_set]
      exact go _ (List.length_set ..) (mapF_set (wdG B) i.toNat 32 0 A i.toNat (by omega) hx hg.symm)
    refine iB _ ?_
    cases hb : bW B i.toNat with
    | false => exact selT rfl (iA _ (st (by unfold wdG; rw [hb]; rfl)))
    | true =>
      refine selF rfl (iA _ ?_)
      cases hc : decide (A.getD i.toNat 0 < 32) with
      | true => exact selT rfl (iA _ (st (by unfold wdG; rw [hb, hc]; rfl)))
      | false =>
        refine selF rfl (go A rfl ?_)
        have hm := mapF_set (wdG B) i.toNat (A.getD i.toNat 0) 0 A i.toNat (by omega) hx (by unfold wdG; rw [hb, hc]; rfl)
        rwa [set_self A i.toNat hx] at hm
  · have e0 : mapF (wdG B) i.toNat 0 A = A := mapF_stop (wdG B) i.toNat 0 A (by omega)
    rw [e0] at h2
    exact h2
noncomputable def c_wds : FuncId → Option Con := conOf [(134, tPT)]
theorem kc_wds : ∀ f T, c_wds f = some T → Known Tryz.prog GL f T := (Knowns.cons kPT .nil).get
noncomputable def t_wds : Con := fun args regs => if regs.length = 0 then nfun Tryz.prog GL c_wds [(0, [3, 4, 12, 13], sumP pWd rWd lWd)] Tryz.f90 args regs else .fail
theorem k_wds : Known Tryz.prog GL 90 t_wds := known_loops 0 Tryz.func90 rfl (by kernel_rfl) mixed kc_wds (LAll.one (id := 0) (body := bodyLoop Tryz.f90 0) (by kernel_rfl) rfl loop_wd)
noncomputable def sgn (x : Int) : Int := bif !odd x || decide (aU x 127 < 32) then 32 else aU x 127
noncomputable def wdA (bs : List Int) : List Int := bs.map fun x => aU x 127
noncomputable def wdB (bs : List Int) : List (List Sc) := bs.map fun x => [Sc.b (odd x)]
theorem wds_tree (g : Nat → Int) (R : Out → Prop) : (t_wds [.c (.l .u8 ((List.range 20).map g))] []).run R = ((((List.range 20).map g).length = 20 ∧ ∀ x ∈ ((List.range 20).map g), 0 ≤ x ∧ x < 256) ∧ (20 = (wdA ((List.range 20).map g)).length ∧ 20 = (wdA ((List.range 20).map g)).length ∧ (wdB ((List.range 20).map g)).length = (wdA ((List.range 20).map g)).length ∧ 20 = ((wdA ((List.range 20).map g)).length : Int) ∧ (wdA ((List.range 20).map g)).length < 1000 ∧ 0 ≤ (0 : Int) ∧ (0 : Int) ≤ 20) ∧ R ⟨.v (.c (.s (strOfNums (((List.range 20).map g).map sgn)))), []⟩) := by kernel_rfl
noncomputable def tWds : Con := fun args regs => match args, regs with
  | [.c (.l .u8 bs)], [] => .must (bs.length = 20 ∧ ∀ x ∈ bs, 0 ≤ x ∧ x < 256) (.ret ⟨.v (.c (.s (strOfNums (bs.map sgn)))), []⟩)
  | _, _ => .fail
theorem wds_in {bs : List Int} {R : Out → Prop} (hl : bs.length = 20) (hb : ∀ x ∈ bs, 0 ≤ x ∧ x < 256) (h : R ⟨.v (.c (.s (strOfNums (bs.map sgn)))), []⟩) : Box ((t_wds [.c (.l .u8 bs)] []).run R) := by
  have e := range_n hl
  generalize (fun i => bs.getD i 0) = g at e
  subst e
  exact Box.of_eq (wds_tree g R) ⟨⟨hl, hb⟩, ⟨rfl, rfl, rfl, rfl, by show 20 < 1000; decide, by decide, by decide⟩, h⟩
set_option maxRecDepth 100000 in
theorem kWds : Known Tryz.prog GL 90 tWds := by
  refine k_wds.less fun args regs R h => Box.out ?_
  unfold tWds at h
  split at h
  case h_2 => exact h.elim
  have h1 := h.1
  have h2 := h.2
  clear h
  exact wds_in h1.1 h1.2 h2
end Go.Proofs.YtdhhjgplnmpjcaaGreatDoor.sv
namespace Go.Proofs.YtdhhjgplnmpjcaaGreatDoor.sv
open Go Go.Nx Go.Proofs.YtdhhjgplnmpjcaaGreatDoor.pk Go.Proofs.YtdhhjgplnmpjcaaGreatDoor.ln Go.Proofs.YtdhhjgplnmpjcaaGreatDoor.hd Go.Proofs.YtdhhjgplnmpjcaaGreatDoor.lb
noncomputable def infC (a b c n o d h m s : Int) (z : ByteArray) : List NC := [.i .i64 a, .i .i64 b, .i .i64 c, .i .i64 n, .i .i64 o, .i .i64 d, .i .i64 h, .i .i64 m, .i .i64 s, .s z]
def fairV (d h m s : Int) : Bool := decide (d ≥ 0) && (decide (d ≤ 99999) && (decide (h ≥ 0) && (decide (h ≤ 23) && (decide (m ≥ 0) && (decide (m ≤ 59) && (decide (s ≥ 0) && decide (s ≤ 59)))))))
theorem sfair_tree (a b c n o d h m s : Int) (z : ByteArray) (R : Out → Prop) : (t_sfair [.ag (infC a b c n o d h m s z)] []).run R =
    sel (decide (d ≥ 0)) (sel (decide (d ≤ 99999)) (sel (decide (h ≥ 0)) (sel (decide (h ≤ 23)) (sel (decide (m ≥ 0)) (sel (decide (m ≤ 59)) (sel (decide (s ≥ 0)) (R (oB (decide (s ≤ 59)))) (R (oB false))) (R (oB false))) (R (oB false))) (R (oB false))) (R (oB false))) (R (oB false))) (R (oB false)) := by kernel_rfl
noncomputable def tFairV : Con := fun args regs => match args, regs with
  | [.ag [.i .i64 _, .i .i64 _, .i .i64 _, .i .i64 _, .i .i64 _, .i .i64 d, .i .i64 h, .i .i64 m, .i .i64 s, .s _]], [] => .ret (oB (fairV d h m s))
  | _, _ => .fail
theorem and_in {x y : Bool} {R : Out → Prop} {X : Prop} (h : R (oB (x && y))) (hX : R (oB y) → X) : sel x X (R (oB false)) := by
  cases x with
  | true => exact selT rfl (hX h)
  | false => exact selF rfl h
set_option maxRecDepth 100000 in
theorem kFairV : Known Tryz.prog GL 133 tFairV := by
  refine k_sfair.less fun args regs R h => Box.out ?_
  unfold tFairV at h
  split at h
  case h_2 => exact h.elim
  rename_i a b c n o d hr m s z
  have h2 : R (oB (fairV d hr m s)) := h
  clear h
  refine Box.of_eq (sfair_tree a b c n o d hr m s z R) ?_
  unfold fairV at h2
  exact and_in h2 fun h => and_in h fun h => and_in h fun h => and_in h fun h => and_in h fun h => and_in h fun h => and_in h fun h => h
noncomputable def c_clk : FuncId → Option Con := conOf [(84, t_partU), (132, tDigV), (133, tFairV)]
theorem kc_clk : ∀ f T, c_clk f = some T → Known Tryz.prog GL f T := (Knowns.cons k_partU (.cons kDigV (.cons kFairV .nil))).get
noncomputable def t_clk : Con := fun args regs => if regs.length = 1 then nfun Tryz.prog GL c_clk [] Tryz.f89 args regs else .fail
theorem k_clk : Known Tryz.prog GL 89 t_clk := known_loops 1 Tryz.func89 rfl (by kernel_rfl) mixed kc_clk (LAll.none (by kernel_rfl))
def mDg (bs : List Int) (k : Int) : Prop := bs.length < 1000 ∧ 0 ≤ k ∧ k ≤ 2 * (bs.length : Int)
noncomputable def vD (bs : List Int) (k : Int) : Int := bif okD bs k then vaD bs k else 0
noncomputable def oClk (a b e n o : Int) (z : ByteArray) (D H M S : Int) (x : Bool) : Out := ⟨.v (.c (.b x)), [some ⟨10, 82, .cells (infC a b e n o D H M S z)⟩]⟩
noncomputable def clkG (g : Nat → Int) : Bool := okD [g 9, g 10, g 11] 1 && (okD [g 12] 0 && (okD [g 13] 0 && (okD [g 14] 0 && fairV (vD [g 9, g 10, g 11] 1) (vD [g 12] 0) (vD [g 13] 0) (vD [g 14] 0))))
noncomputable def oCk (a b e n o : Int) (z : ByteArray) (g : Nat → Int) (x : Bool) : Out := oClk a b e n o z (vD [g 9, g 10, g 11] 1) (vD [g 12] 0) (vD [g 13] 0) (vD [g 14] 0) x
theorem clk_tree (g : Nat → Int) (m r k c a b e n o d h mi s : Int) (z : ByteArray) (R : Out → Prop) : (t_clk [.c (.p 0 0 0), .ag [.i .i64 m, .i .i64 r, .i .i64 k, .i .i64 c, .l .u8 ((List.range 39).map g)]] [⟨10, 82, .cells (infC a b e n o d h mi s z)⟩]).run R =
    (mDg [g 9, g 10, g 11] 1 ∧ (mDg [g 12] 0 ∧ (mDg [g 13] 0 ∧ (mDg [g 14] 0 ∧ sel (okD [g 9, g 10, g 11] 1) (sel (okD [g 12] 0) (sel (okD [g 13] 0) (sel (okD [g 14] 0) (R (oCk a b e n o z g (fairV (vD [g 9, g 10, g 11] 1) (vD [g 12] 0) (vD [g 13] 0) (vD [g 14] 0)))) (R (oCk a b e n o z g false))) (R (oCk a b e n o z g false))) (R (oCk a b e n o z g false))) (R (oCk a b e n o z g false)))))) := by kernel_rfl
noncomputable def gD (ds : List Int) : Nat → Int := fun i => ds.getD i 0
noncomputable def tClk : Con := fun args regs => match args, regs with
  | [.c (.p 0 0 0), .ag [.i .i64 _, .i .i64 _, .i .i64 _, .i .i64 _, .l .u8 ds]], [⟨10, 82, .cells [.i .i64 a, .i .i64 b, .i .i64 e, .i .i64 n, .i .i64 o, .i .i64 _, .i .i64 _, .i .i64 _, .i .i64 _, .s z]⟩] => .must (ds.length = 39) (.ret (oCk a b e n o z (gD ds) (clkG (gD ds))))
  | _, _ => .fail
theorem mDg3 (a b c : Int) : mDg [a, b, c] 1 := ⟨by show 3 < 1000; decide, by decide, by show (1 : Int) ≤ 2 * 3; decide⟩
theorem mDg1 (a : Int) : mDg [a] 0 := ⟨by show 1 < 1000; decide, by decide, by show (0 : Int) ≤ 2 * 1; decide⟩
theorem ck_in {x y : Bool} {F : Bool → Prop} {X : Prop} (h : F (x && y)) (hX : F y → X) : sel x X (F false) := by
  cases x with
  | true => exact selT rfl (hX h)
  | false => exact selF rfl h
theorem clk_in {ds : List Int} {m r k c a b e n o d h mi s : Int} {z : ByteArray} {R : Out → Prop} (hl : ds.length = 39) (hR : R (oCk a b e n o z (gD ds) (clkG (gD ds)))) : Box ((t_clk [.c (.p 0 0 0), .ag [.i .i64 m, .i .i64 r, .i .i64 k, .i .i64 c, .l .u8 ds]] [⟨10, 82, .cells (infC a b e n o d h mi s z)⟩]).run R) := by
  have eq := range_n hl
  have eg : (fun i => ds.getD i 0) = gD ds := rfl
  rw [eg] at eq
  generalize gD ds = g at eq hR
  subst eq
  refine Box.of_eq (clk_tree g m r k c a b e n o d h mi s z R) ⟨mDg3 _ _ _, mDg1 _, mDg1 _, mDg1 _, ?_⟩
  unfold clkG at hR
  exact ck_in (F := fun x => R (oCk a b e n o z g x)) hR fun h => ck_in (F := fun x => R (oCk a b e n o z g x)) h fun h => ck_in (F := fun x => R (oCk a b e n o z g x)) h fun h => ck_in (F := fun x => R (oCk a b e n o z g x)) h fun h => h
set_option maxRecDepth 100000 in
theorem kClk : Known Tryz.prog GL 89 tClk := by
  refine k_clk.less fun args regs R h => Box.out ?_
  unfold tClk at h
  split at h
  case h_2 => exact h.elim
  exact clk_in h.1 h.2
def partL (ds : List Int) (f n : Int) : List Int := (List.range n.toNat).map fun i => ds.getD (f.toNat + i) 0
noncomputable def oPt (ds : List Int) (f n : Int) : Out := ⟨.v (.c (.h 0 0 n.toNat)), [some ⟨1, 5, .ints .u8 (partL ds f n)⟩]⟩
theorem part_0 (m r k c : Int) (g : Nat → Int) (R : Out → Prop) : (t_partU [.ag [.i .i64 m, .i .i64 r, .i .i64 k, .i .i64 c, .l .u8 ((List.range 39).map g)], .c (.i .i64 0), .c (.i .i64 6)] []).run R = R (oPt ((List.range 39).map g) 0 6) := by kernel_rfl
theorem part_19 (m r k c : Int) (g : Nat → Int) (R : Out → Prop) : (t_partU [.ag [.i .i64 m, .i .i64 r, .i .i64 k, .i .i64 c, .l .u8 ((List.range 39).map g)], .c (.i .i64 19), .c (.i .i64 20)] []).run R = R (oPt ((List.range 39).map g) 19 20) := by kernel_rfl
theorem part_9 (m r k c : Int) (g : Nat → Int) (R : Out → Prop) : (t_partU [.ag [.i .i64 m, .i .i64 r, .i .i64 k, .i .i64 c, .l .u8 ((List.range 39).map g)], .c (.i .i64 9), .c (.i .i64 3)] []).run R = R (oPt ((List.range 39).map g) 9 3) := by kernel_rfl
theorem part_12 (m r k c : Int) (g : Nat → Int) (R : Out → Prop) : (t_partU [.ag [.i .i64 m, .i .i64 r, .i .i64 k, .i .i64 c, .l .u8 ((List.range 39).map g)], .c (.i .i64 12), .c (.i .i64 3)] []).run R = R (oPt ((List.range 39).map g) 12 3) := by kernel_rfl
noncomputable def tPartV : Con := fun args regs => match args, regs with
  | [.ag [.i .i64 _, .i .i64 _, .i .i64 _, .i .i64 _, .l .u8 ds], .c (.i .i64 f), .c (.i .i64 n)], [] => .must (ds.length = 39 ∧ ((f = 0 ∧ n = 6) ∨ (f = 19 ∧ n = 20) ∨ (f = 9 ∧ n = 3) ∨ (f = 12 ∧ n = 3))) (.ret (oPt ds f n))
  | _, _ => .fail
theorem part_in {m r k c f n : Int} {ds : List Int} {R : Out → Prop} (hl : ds.length = 39) (hf : (f = 0 ∧ n = 6) ∨ (f = 19 ∧ n = 20) ∨ (f = 9 ∧ n = 3) ∨ (f = 12 ∧ n = 3)) (h : R (oPt ds f n)) : Box ((t_partU [.ag [.i .i64 m, .i .i64 r, .i .i64 k, .i .i64 c, .l .u8 ds], .c (.i .i64 f), .c (.i .i64 n)] []).run R) := by
  have e := range_n hl
  generalize (fun i => ds.getD i 0) = g at e
  subst e
  rcases hf with ⟨rfl, rfl⟩ | ⟨rfl, rfl⟩ | ⟨rfl, rfl⟩ | ⟨rfl, rfl⟩
  · exact Box.of_eq (part_0 m r k c g R) h
  · exact Box.of_eq (part_19 m r k c g R) h
  · exact Box.of_eq (part_9 m r k c g R) h
  · exact Box.of_eq (part_12 m r k c g R) h
set_option maxRecDepth 100000 in
theorem kPartV : Known Tryz.prog GL 84 tPartV := by
  refine k_partU.less fun args regs R h => Box.out ?_
  unfold tPartV at h
  split at h
  case h_2 => exact h.elim
  have h1 := h.1
  have h2 := h.2
  clear h
  exact part_in h1.1 h1.2 h2
theorem at_6 (m r k c : Int) (g : Nat → Int) (R : Out → Prop) : (t_at [.ag [.i .i64 m, .i .i64 r, .i .i64 k, .i .i64 c, .l .u8 ((List.range 39).map g)], .c (.i .i64 6)] []).run R = R ⟨.v (.c (.i .u8 (((List.range 39).map g).getD 6 0))), []⟩ := by kernel_rfl
theorem at_7 (m r k c : Int) (g : Nat → Int) (R : Out → Prop) : (t_at [.ag [.i .i64 m, .i .i64 r, .i .i64 k, .i .i64 c, .l .u8 ((List.range 39).map g)], .c (.i .i64 7)] []).run R = R ⟨.v (.c (.i .u8 (((List.range 39).map g).getD 7 0))), []⟩ := by kernel_rfl
theorem at_8 (m r k c : Int) (g : Nat → Int) (R : Out → Prop) : (t_at [.ag [.i .i64 m, .i .i64 r, .i .i64 k, .i .i64 c, .l .u8 ((List.range 39).map g)], .c (.i .i64 8)] []).run R = R ⟨.v (.c (.i .u8 (((List.range 39).map g).getD 8 0))), []⟩ := by kernel_rfl
noncomputable def tAtV : Con := fun args regs => match args, regs with
  | [.ag [.i .i64 _, .i .i64 _, .i .i64 _, .i .i64 _, .l .u8 ds], .c (.i .i64 k)], [] => .must (ds.length = 39 ∧ (k = 6 ∨ k = 7 ∨ k = 8)) (.ret ⟨.v (.c (.i .u8 (ds.getD k.toNat 0))), []⟩)
  | _, _ => .fail
theorem at_in {m r kd c k : Int} {ds : List Int} {R : Out → Prop} (hl : ds.length = 39) (hf : k = 6 ∨ k = 7 ∨ k = 8) (h : R ⟨.v (.c (.i .u8 (ds.getD k.toNat 0))), []⟩) : Box ((t_at [.ag [.i .i64 m, .i .i64 r, .i .i64 kd, .i .i64 c, .l .u8 ds], .c (.i .i64 k)] []).run R) := by
  have e := range_n hl
  generalize (fun i => ds.getD i 0) = g at e
  subst e
  rcases hf with rfl | rfl | rfl
  · exact Box.of_eq (at_6 m r kd c g R) h
  · exact Box.of_eq (at_7 m r kd c g R) h
  · exact Box.of_eq (at_8 m r kd c g R) h
set_option maxRecDepth 100000 in
theorem kAtV : Known Tryz.prog GL 88 tAtV := by
  refine k_at.less fun args regs R h => Box.out ?_
  unfold tAtV at h
  split at h
  case h_2 => exact h.elim
  have h1 := h.1
  have h2 := h.2
  clear h
  exact at_in h1.1 h1.2 h2
noncomputable def c_srd : FuncId → Option Con := conOf [(84, tPartV), (75, tOpn), (85, t_of), (86, tLMag), (87, tTurn), (88, tAtV), (89, tClk), (90, tWds)]
theorem kc_srd : ∀ f T, c_srd f = some T → Known Tryz.prog GL f T := (Knowns.cons kPartV (.cons kOpn (.cons k_of (.cons kLMag (.cons kTurn (.cons kAtV (.cons kClk (.cons kWds .nil)))))))).get
noncomputable def t_srd : Con := fun args regs => nfun Tryz.prog GL c_srd [] Tryz.f36 args regs
theorem k_srd : Known Tryz.prog GL 36 t_srd := known_inl Tryz.func36 rfl (by kernel_rfl) mixed kc_srd (by kernel_rfl)
end Go.Proofs.YtdhhjgplnmpjcaaGreatDoor.sv
namespace Go.Proofs.YtdhhjgplnmpjcaaGreatDoor.sv
open Go Go.Nx Go.Proofs.YtdhhjgplnmpjcaaGreatDoor.pk Go.Proofs.YtdhhjgplnmpjcaaGreatDoor.ln Go.Proofs.YtdhhjgplnmpjcaaGreatDoor.hd Go.Proofs.YtdhhjgplnmpjcaaGreatDoor.lb
noncomputable def nb (ds : List Int) (i : Nat) : Int := getN (ds.getD i 0)
noncomputable def mgV (ds : List Int) : Int := magOf (oI (shrv .i64 (nb ds 3) 3) (shlv .i64 (shrv .i64 (nb ds 5) 2) 1))
noncomputable def pgV (ds : List Int) : Int := oI (nb ds 0) (shlv .i64 (nb ds 1) 4)
noncomputable def sbV (ds : List Int) : Int := oI (oI (oI (nb ds 2) (shlv .i64 (aI (nb ds 3) 7) 4)) (shlv .i64 (nb ds 4) 8)) (shlv .i64 (aI (nb ds 5) 3) 12)
noncomputable def nwV (ds : List Int) : Int := oI (shlv .i64 (IntKind.i64.wrap (rv (ds.getD 6 0))) 8) (IntKind.i64.wrap (rv (ds.getD 7 0)))
noncomputable def ofV (ds : List Int) : Int := aI (shrv .i64 (IntKind.i64.wrap (ds.getD 8 0)) 1) 31
noncomputable def sgV (ds : List Int) : Bool := aI (shrv .i64 (IntKind.i64.wrap (ds.getD 8 0)) 6) 1 == 1
noncomputable def dyV (ds : List Int) : Int := vD [gD ds 9, gD ds 10, gD ds 11] 1
noncomputable def hrV (ds : List Int) : Int := vD [gD ds 12] 0
noncomputable def miV (ds : List Int) : Int := vD [gD ds 13] 0
noncomputable def seV (ds : List Int) : Int := vD [gD ds 14] 0
noncomputable def txV (ds : List Int) : ByteArray := strOfNums ((partL ds 19 20).map sgn)
noncomputable def oIn (ds : List Int) (of : Int) : Out := ⟨.tu [.ag (infC (mgV ds) (pgV ds) (sbV ds) (nwV ds) of (dyV ds) (hrV ds) (miV ds) (seV ds) (txV ds)), .c .en], []⟩
def oIE (k : Nat) : Out := ⟨.tu [.ag [.i .i64 0, .i .i64 0, .i .i64 0, .i .i64 0, .i .i64 0, .i .i64 0, .i .i64 0, .i .i64 0, .i .i64 0, .s ⟨#[]⟩], .c (.e k)], []⟩
noncomputable def all6 (ds : List Int) : Bool := [ds.getD 0 0, ds.getD 1 0, ds.getD 2 0, ds.getD 3 0, ds.getD 4 0, ds.getD 5 0].all getB
def mPt (ds : List Int) (f n : Int) : Prop := ds.length = 39 ∧ ((f = 0 ∧ n = 6) ∨ (f = 19 ∧ n = 20) ∨ (f = 9 ∧ n = 3) ∨ (f = 12 ∧ n = 3))
def mAt (ds : List Int) (k : Int) : Prop := ds.length = 39 ∧ (k = 6 ∨ k = 7 ∨ k = 8)
def mBy (x : Int) : Prop := 0 ≤ x ∧ x < 256
noncomputable def rdE (ds : List Int) (of : Int) (R : Out → Prop) : Prop := ds.length = 39 ∧ sel (!clkG (gD ds)) (R (oIE eRng)) (mPt ds 19 20 ∧ (((partL ds 19 20).length = 20 ∧ ∀ x ∈ partL ds 19 20, 0 ≤ x ∧ x < 256) ∧ R (oIn ds of)))
noncomputable def rdX (ds : List Int) (R : Out → Prop) : Prop :=
  mPt ds 0 6 ∧ sel (all6 ds) (mAt ds 6 ∧ (mBy (ds.getD 6 0) ∧ (mAt ds 7 ∧ (mBy (ds.getD 7 0) ∧ (mAt ds 8 ∧ sel (sgV ds) (rdE ds (IntKind.i64.wrap (0 - ofV ds)) R) (rdE ds (ofV ds) R)))))) (R (oIE eBit))
theorem srd_tree (m r k c : Int) (ds : List Int) (R : Out → Prop) : (t_srd [.ag [.i .i64 m, .i .i64 r, .i .i64 k, .i .i64 c, .l .u8 ds]] []).run R =
    sel (k != 7) (R (oIE eKnd)) (sel (m != 8) (R (oIE eKnd)) (sel (c != 0) (sel (c != 1) (R (oIE eKnd)) (rdX ds R)) (rdX ds R))) := by kernel_rfl
def okK (m k c : Int) : Bool := k == 7 && (m == 8 && (c == 0 || c == 1))
noncomputable def ofS (ds : List Int) : Int := bif sgV ds then IntKind.i64.wrap (0 - ofV ds) else ofV ds
noncomputable def tSrd : Con := fun args regs => match args, regs with
  | [.ag [.i .i64 m, .i .i64 _, .i .i64 k, .i .i64 c, .l .u8 ds]], [] => .must (okK m k c = true → ds.length = 39 ∧ ∀ x ∈ ds, 0 ≤ x ∧ x < 256) (.br (okK m k c) (.br (all6 ds) (.br (clkG (gD ds)) (.ret (oIn ds (ofS ds))) (.ret (oIE eRng))) (.ret (oIE eBit))) (.ret (oIE eKnd)))
  | _, _ => .fail
theorem get_in {ds : List Int} (h : ∀ x ∈ ds, 0 ≤ x ∧ x < 256) (j : Nat) : 0 ≤ ds.getD j 0 ∧ ds.getD j 0 < 256 := by
  rw [List.getD_eq_getElem?_getD]
  cases e : ds[j]? with
  | none => exact ⟨by decide, by decide⟩
  | some x => exact h x (List.mem_of_getElem? e)
theorem part_by {ds : List Int} (h : ∀ x ∈ ds, 0 ≤ x ∧ x < 256) (f n : Int) : ∀ x ∈ partL ds f n, 0 ≤ x ∧ x < 256 := by
  intro x hx
  unfold partL at hx
  rw [List.mem_map] at hx
  obtain ⟨i, _, rfl⟩ := hx
  exact get_in h _
theorem rdE_in {ds : List Int} {of : Int} {R : Out → Prop} (hl : ds.length = 39) (hb : ∀ x ∈ ds, 0 ≤ x ∧ x < 256) (h : sel (clkG (gD ds)) (R (oIn ds of)) (R (oIE eRng))) : rdE ds of R := by
  refine ⟨hl, ?_⟩
  cases e : clkG (gD ds) with
  | true => rw [e] at h; exact selF rfl ⟨⟨hl, .inr (.inl ⟨rfl, rfl⟩)⟩, ⟨rfl, part_by hb _ _⟩, h⟩
  | false => rw [e] at h; exact selT rfl h
theorem rdX_in {ds : List Int} {R : Out → Prop} (hl : ds.length = 39) (hb : ∀ x ∈ ds, 0 ≤ x ∧ x < 256) (h : sel (all6 ds) (sel (clkG (gD ds)) (R (oIn ds (ofS ds))) (R (oIE eRng))) (R (oIE eBit))) : rdX ds R := by
  refine ⟨⟨hl, .inl ⟨rfl, rfl⟩⟩, ?_⟩
  cases e : all6 ds with
  | false => rw [e] at h; exact selF rfl h
  | true =>
    rw [e] at h
    refine selT rfl ⟨⟨hl, .inl rfl⟩, get_in hb 6, ⟨hl, .inr (.inl rfl)⟩, get_in hb 7, ⟨hl, .inr (.inr rfl)⟩, ?_⟩
    unfold ofS at h
    cases es : sgV ds with
    | true => rw [es] at h; exact selT rfl (rdE_in hl hb h)
    | false => rw [es] at h; exact selF rfl (rdE_in hl hb h)
theorem srd_in {m k c : Int} {ds : List Int} {R : Out → Prop} (hm : okK m k c = true → ds.length = 39 ∧ ∀ x ∈ ds, 0 ≤ x ∧ x < 256) (h : sel (okK m k c) (sel (all6 ds) (sel (clkG (gD ds)) (R (oIn ds (ofS ds))) (R (oIE eRng))) (R (oIE eBit))) (R (oIE eKnd))) :
    sel (k != 7) (R (oIE eKnd)) (sel (m != 8) (R (oIE eKnd)) (sel (c != 0) (sel (c != 1) (R (oIE eKnd)) (rdX ds R)) (rdX ds R))) := by
  unfold okK at hm h
  cases e1 : (k == 7) with
  | false => rw [e1] at h; exact selT (by simp [bne, e1]) h
  | true =>
    rw [e1] at h hm
    refine selF (by simp [bne, e1]) ?_
    cases e2 : (m == 8) with
    | false => rw [e2] at h; exact selT (by simp [bne, e2]) h
    | true =>
      rw [e2] at h hm
      refine selF (by simp [bne, e2]) ?_
      cases e3 : (c == 0) with
      | true =>
        rw [e3] at h hm
        exact selF (by simp [bne, e3]) (rdX_in (hm rfl).1 (hm rfl).2 h)
      | false =>
        rw [e3] at h hm
        refine selT (by simp [bne, e3]) ?_
        cases e4 : (c == 1) with
        | true =>
          rw [e4] at h hm
          exact selF (by simp [bne, e4]) (rdX_in (hm rfl).1 (hm rfl).2 h)
        | false => rw [e4] at h; exact selT (by simp [bne, e4]) h
set_option maxRecDepth 100000 in
theorem kSrd : Known Tryz.prog GL 36 tSrd := by
  refine k_srd.less fun args regs R h => Box.out ?_
  unfold tSrd at h
  split at h
  case h_2 => exact h.elim
  rename_i m r k c ds
  have h1 := h.1
  have h2 := h.2
  clear h
  exact Box.of_eq (srd_tree m r k c ds R) (srd_in h1 h2)
end Go.Proofs.YtdhhjgplnmpjcaaGreatDoor.sv
namespace Go.Proofs.YtdhhjgplnmpjcaaGreatDoor.sv
open Go Go.Nx Go.Proofs.YtdhhjgplnmpjcaaGreatDoor.pk Go.Proofs.YtdhhjgplnmpjcaaGreatDoor.ln Go.Proofs.YtdhhjgplnmpjcaaGreatDoor.hd Go.Proofs.YtdhhjgplnmpjcaaGreatDoor.lb
noncomputable def u8i (n : Int) : Int := IntKind.u8.wrap n
noncomputable def two (x : Int) : Int := u8i (IntKind.i64.wrap (bits .or .i64 (shlv .i64 (IntKind.i64.wrap (IntKind.i64.wrap (x.tdiv 10) + 1)) 4) (x.tmod 10) + 1))
noncomputable def mx (o : Int) : Int := bif decide (IntKind.i64.wrap (0 - o) > o) then IntKind.i64.wrap (0 - o) else o
noncomputable def ofB (neg : Bool) (o : Int) : Int := bif neg then oU (u8i (shlv .i64 (mx o) 1)) 64 else u8i (shlv .i64 (mx o) 1)
noncomputable def hd7 (a b e : Int) : List Int := [put 0, put (aI b 15), put (shrv .i64 b 4), put (aI e 15), put (oI (aI (shrv .i64 e 4) 7) (shlv .i64 (aI (aI a 7) 1) 3)), put (aI (shrv .i64 e 8) 15), put (oI (aI (shrv .i64 e 12) 3) (shlv .i64 (shrv .i64 (aI a 7) 1) 2))]
noncomputable def md9 (neg : Bool) (n o d h mi s : Int) : List Int := [rv (u8i (shrv .i64 n 8)), rv (u8i n), ofB neg o, u8i (IntKind.i64.wrap (IntKind.i64.wrap (d.tdiv 10000) + 1)), two ((IntKind.i64.wrap (d.tdiv 100)).tmod 100), two (d.tmod 100), two h, two mi, two s, 0, 0, 0, 0]
noncomputable def LB (neg : Bool) (a b e n o d h mi s : Int) (z : ByteArray) : List Int := 21 :: 234 :: (hd7 a b e ++ (md9 neg n o d h mi s ++ txA z 20))
noncomputable def c_same : FuncId → Option Con := conOf [(22, tSamePT)]
theorem kc_same : ∀ f T, c_same f = some T → Known Tryz.prog GL f T := (Knowns.cons kSamePT .nil).get
end Go.Proofs.YtdhhjgplnmpjcaaGreatDoor.sv
namespace Go.Proofs.YtdhhjgplnmpjcaaGreatDoor.mac
open Go Go.Nx Go.Proofs.YtdhhjgplnmpjcaaGreatDoor.pk Go.Proofs.YtdhhjgplnmpjcaaGreatDoor.ac Go.Proofs.YtdhhjgplnmpjcaaGreatDoor.sto Go.Proofs.YtdhhjgplnmpjcaaGreatDoor.pge Go.Proofs.YtdhhjgplnmpjcaaGreatDoor.dec
noncomputable def Mv.part (m : Mv) (p : Px) : Mv :=
  match p.kd == 2 with
  | true => m.with (rowP m.p p.row p.ds)
  | false => match p.kd == 3 with
    | true => m.extra p
    | false => match p.kd == 4 with
      | true => m.linked p
      | false => match p.kd == 5 && tr.regB p.kd p.cd p.ds with
        | true => m.with { m.p with df := IntKind.i64.wrap (1 + rgN p.kd p.cd p.ds) }
        | false => m
noncomputable def Mc.insM (M : Mc) (g : Nat) (p : Px) : Mc := match (M.v g).opn with
  | true => M.withV g ((M.v g).part p)
  | false => M
theorem rowP_fits {p : Pg} {row : Int} {ds : List Int} (h : fits p) : fits (rowP p row ds) := by
  unfold rowP
  split <;> exact h
theorem exV_len {n : Nat} {E l : List (List Sc)} (hn : n < 16) (hE : E.length ≤ 208) : (exV n E l).length ≤ 208 := by
  have lP := padE_length (13 * (n + 1)) E
  unfold exV
  rw [splice_len13, splice_len13]
  · omega
  · rw [List.length_replicate]; omega
  · rw [splice_len13 (by rw [List.length_replicate]; omega), List.length_take]; omega
theorem extraP_fits {p : Pg} {c : Int} {l : List (List Sc)} (h : fits p) : fits (extraP p c l) := by
  unfold extraP
  split
  · rename_i hc
    have hc := of_decide_eq_true hc
    exact exV_len (by omega) h
  · exact h
theorem part_fits {m : Mv} {p : Px} (h : fits m.p) : fits (m.part p).p := by
  unfold Mv.part
  split
  · exact rowP_fits h
  · split
    · unfold Mv.extra
      split
      · exact extraP_fits h
      · exact h
    · split
      · unfold Mv.linked
        split <;> exact h
      · split <;> exact h
theorem part_txt (m : Mv) (p : Px) : (m.part p).t = m.t := by
  unfold Mv.part
  split
  · rfl
  · split
    · unfold Mv.extra
      split <;> rfl
    · split
      · unfold Mv.linked
        split <;> rfl
      · split <;> rfl
theorem insM_good {M : Mc} (h : M.good) {g : Nat} (hg : g < 9) (p : Px) : (M.insM g p).good := by
  unfold Mc.insM
  split
  · exact h.upd hg (part_fits (h.vfit g)) (by rw [part_txt]; exact h.txt g)
  · exact h
theorem inT_of {M : Mc} {g : Nat} {row kd cd : Int} {ds : List Int} {R : Out → Prop} (hM : M.good) (hl : kd = 3 ∨ kd = 4 ∨ kd = 5 → ds.length = 39) (hb : ∀ b ∈ ds, 0 ≤ b ∧ b < 256) (h : R (oMe (M.insM g ⟨g, row, kd, cd, ds⟩) .en)) : inT M g row kd cd ds R := by
  have hf := hM.vfit g
  have hf' : (M.v g).p.ex.length ≤ 208 := hf
  unfold inT
  unfold Mc.insM at h
  cases ho : (M.v g).opn with
  | false => rw [ho] at h; exact sT rfl h
  | true =>
    rw [ho] at h
    refine sF rfl ?_
    have h : R (oMe (M.withV g ((M.v g).part ⟨g, row, kd, cd, ds⟩)) .en) := h
    unfold Mv.part at h
    simp only at h
    cases h2 : (kd == 2) with
    | true => rw [h2] at h; exact sT rfl ⟨⟨rfl, by omega, hb⟩, h⟩
    | false =>
      rw [h2] at h
      refine sF rfl ?_
      cases h3 : (kd == 3) with
      | true =>
        rw [h3] at h
        have e3 := eq_of_beq h3
        exact sT rfl ⟨⟨⟨rfl, rfl⟩, ⟨e3, hl (.inl e3), hb⟩, hf⟩, h⟩
      | false =>
        rw [h3] at h
        refine sF rfl ?_
        cases h4 : (kd == 4) with
        | true =>
          rw [h4] at h
          have e4 := eq_of_beq h4
          exact sT rfl ⟨⟨⟨rfl, rfl⟩, e4, hl (.inr (.inl e4))⟩, h⟩
        | false =>
          rw [h4] at h
          refine sF rfl ?_
          cases h5 : (kd == 5) with
          | true =>
            rw [h5, Bool.true_and] at h
            have hl5 := hl (.inr (.inr (eq_of_beq h5)))
            refine sT rfl ⟨⟨by omega, by omega, hb⟩, ?_⟩
            cases hr : tr.regB kd cd ds with
            | true => rw [hr] at h; exact sT rfl h
            | false =>
              rw [hr] at h
              have h : R (oMe (M.withV g (M.v g)) .en) := h
              rw [withV_self] at h
              exact sF rfl h
          | false =>
            rw [h5, Bool.false_and] at h
            have h : R (oMe (M.withV g (M.v g)) .en) := h
            rw [withV_self] at h
            exact sF rfl h
noncomputable def tIn : Con := fun args regs => match args with
  | [.c (.p 0 0 0), v] => (match rdPv v with
    | some p => onM regs fun M => .must (args = [.c (.p 0 0 0), p.nv] ∧ (1 ≤ p.mg ∧ p.mg ≤ 8) ∧ M.good ∧ (p.kd = 3 ∨ p.kd = 4 ∨ p.kd = 5 → p.ds.length = 39) ∧ ∀ b ∈ p.ds, 0 ≤ b ∧ b < 256) (.ret (oMe (M.insM p.mg.toNat p) .en))
    | none => .fail)
  | _ => .fail
attribute [local irreducible] t_inC in
set_option maxRecDepth 100000 in
theorem kIn : Known Tryz.prog GL 37 tIn := by
  refine k_inC.less fun args regs R h => ?_
  unfold tIn at h
  split at h
  case h_2 => exact h.elim
  split at h
  case h_2 => exact h.elim
  rename_i p _
  obtain ⟨M, rfl, hM, ⟨h1, hg, hgd, hl, hb⟩, h⟩ := onM_elim h
  rw [h1]
  obtain ⟨g, row, kd, cd, ds⟩ := p
  have hg : g = 1 ∨ g = 2 ∨ g = 3 ∨ g = 4 ∨ g = 5 ∨ g = 6 ∨ g = 7 ∨ g = 8 := by have := hg.1; have := hg.2; simp only at *; omega
  rcases hg with rfl | rfl | rfl | rfl | rfl | rfl | rfl | rfl
  · exact (in_tree1 M row kd cd ds R).mpr (inT_of hgd hl hb h)
  · exact (in_tree2 M row kd cd ds R).mpr (inT_of hgd hl hb h)
  · exact (in_tree3 M row kd cd ds R).mpr (inT_of hgd hl hb h)
  · exact (in_tree4 M row kd cd ds R).mpr (inT_of hgd hl hb h)
  · exact (in_tree5 M row kd cd ds R).mpr (inT_of hgd hl hb h)
  · exact (in_tree6 M row kd cd ds R).mpr (inT_of hgd hl hb h)
  · exact (in_tree7 M row kd cd ds R).mpr (inT_of hgd hl hb h)
  · exact (in_tree8 M row kd cd ds R).mpr (inT_of hgd hl hb h)
noncomputable def tRdQ (q : PkR) : Con := fun args regs => match args, regs with
  | [.c (.l _ bs)], [] => .must (args = [.c (.l .u8 bs)] ∧ pkV bs = q) (.ret q.out)
  | [.c .sn], [] => .must (q = .bad eLen) (.ret q.out)
  | _, _ => .fail
theorem kRdQ (q : PkR) : Known Tryz.prog GL 33 (tRdQ q) := by
  refine kRdS.less fun args regs R h => ?_
  unfold tRdQ at h
  split at h
  case h_3 => exact h.elim
  case h_1 =>
    obtain ⟨⟨h1, h2⟩, h⟩ := h
    rw [h1]
    subst h2
    exact h
  case h_2 =>
    obtain ⟨h1, h⟩ := h
    subst h1
    exact h
noncomputable def c_pk (q : PkR) : FuncId → Option Con := conOf [(33, tRdQ q), (34, tHd), (35, tr.tRegion), (36, sv.tSrd), (37, tIn)]
theorem kc_pk (q : PkR) : ∀ f T, c_pk q f = some T → Known Tryz.prog GL f T := (Knowns.cons (kRdQ q) (.cons kHd (.cons tr.kRegion (.cons sv.kSrd (.cons kIn .nil))))).get
noncomputable def t_pk0 (q : PkR) : Con := fun args regs => nfun Tryz.prog GL (c_pk q) [] Tryz.f12 args regs
theorem k_pk0 (q : PkR) : KnownF Tryz.prog GL 12 (t_pk0 q) := known_inlF Tryz.func12 rfl (by kernel_rfl) mixed (kc_pk q) (by kernel_rfl)
noncomputable def t_pkC (q : PkR) : Con := softT [] [] [] [] 9 (canonT 8 [(1, 2, ordReg [])] none (t_pk0 q))
theorem k_pkC (q : PkR) : Known Tryz.prog GL 12 (t_pkC q) := ((k_pk0 q).canon 8 [(1, 2, ordReg [])] none).soft [] [] [] [] 9
end Go.Proofs.YtdhhjgplnmpjcaaGreatDoor.mac
namespace Go.Proofs.YtdhhjgplnmpjcaaGreatDoor.mac
open Go Go.Nx Go.Proofs.YtdhhjgplnmpjcaaGreatDoor.pk Go.Proofs.YtdhhjgplnmpjcaaGreatDoor.ac Go.Proofs.YtdhhjgplnmpjcaaGreatDoor.sto Go.Proofs.YtdhhjgplnmpjcaaGreatDoor.pge Go.Proofs.YtdhhjgplnmpjcaaGreatDoor.dec
noncomputable def ixV (ds : List Int) : Ix := ⟨sv.mgV ds, sv.pgV ds, sv.sbV ds, sv.nwV ds, sv.ofS ds, sv.dyV ds, sv.hrV ds, sv.miV ds, sv.seV ds, sv.txV ds, true⟩
noncomputable def pkT (M : Mc) (g : Nat) (row kd cd : Int) (ds : List Int) (R : Out → Prop) : Prop :=
  sel (kd == 1) ((inM M = inM (bk M) ∧ (bk M).ok) ∧ ([NV.c (.p 0 0 0), (⟨(g : Int), row, kd, cd, ds⟩ : Px).nv] = [.c (.p 0 0 0), (⟨(g : Int), row, 1, cd, ds⟩ : Px).nv] ∧ (1 ≤ (g : Int) ∧ (g : Int) ≤ 8) ∧ (bk M).good ∧ ds.length = 40 ∧ ∀ b ∈ ds, 0 ≤ b ∧ b < 256) ∧
      sel (hdOk ds) (R (oMe ((bk M).hdM g ds) .en)) (R (oMe (bk M) (.e eBit))))
    (sel (kd == 6) (rgT kd cd ds (R (oMe (M.withV g { M.v g with rg := rgN kd cd ds, td := true }) .en)) (R (oMe M .en)))
    (sel (kd == 7) ((sv.okK g kd cd = true → ds.length = 39 ∧ ∀ x ∈ ds, 0 ≤ x ∧ x < 256) ∧ sel (sv.okK g kd cd) (sel (sv.all6 ds) (sel (sv.clkG (sv.gD ds)) (R (oMe { M with inf := ixV ds } .en)) (R (oMe M (.e eRng)))) (R (oMe M (.e eBit)))) (R (oMe M (.e eKnd))))
      ((inM M = inM (bk M) ∧ (bk M).ok) ∧ ([NV.c (.p 0 0 0), (⟨(g : Int), row, kd, cd, ds⟩ : Px).nv] = [.c (.p 0 0 0), (⟨(g : Int), row, kd, cd, ds⟩ : Px).nv] ∧ (1 ≤ (g : Int) ∧ (g : Int) ≤ 8) ∧ (bk M).good ∧ (kd = 3 ∨ kd = 4 ∨ kd = 5 → ds.length = 39) ∧ ∀ b ∈ ds, 0 ≤ b ∧ b < 256) ∧
        R (oMe ((bk M).insM g ⟨g, row, kd, cd, ds⟩) .en))))
theorem pk_treeBL (M : Mc) (bs : List Int) (R : Out → Prop) : (t_pkC (.bad eLen) [.c (.p 0 0 0), .c (.l .u8 bs)] (inM M)).run R = (([NV.c (.l .u8 bs)] = [NV.c (.l .u8 bs)] ∧ pkV bs = .bad eLen) ∧ R (oMe M (.e eLen))) := by kernel_rfl
theorem pk_treeBB (M : Mc) (bs : List Int) (R : Out → Prop) : (t_pkC (.bad eBit) [.c (.p 0 0 0), .c (.l .u8 bs)] (inM M)).run R = (([NV.c (.l .u8 bs)] = [NV.c (.l .u8 bs)] ∧ pkV bs = .bad eBit) ∧ R (oMe M (.e eBit))) := by kernel_rfl
theorem pk_treeBK (M : Mc) (bs : List Int) (R : Out → Prop) : (t_pkC (.bad eKnd) [.c (.p 0 0 0), .c (.l .u8 bs)] (inM M)).run R = (([NV.c (.l .u8 bs)] = [NV.c (.l .u8 bs)] ∧ pkV bs = .bad eKnd) ∧ R (oMe M (.e eKnd))) := by kernel_rfl
theorem pk_treeN (M : Mc) (R : Out → Prop) : (t_pkC (.bad eLen) [.c (.p 0 0 0), .c .sn] (inM M)).run R = (PkR.bad eLen = .bad eLen ∧ R (oMe M (.e eLen))) := by kernel_rfl
end Go.Proofs.YtdhhjgplnmpjcaaGreatDoor.mac
namespace Go.Proofs.YtdhhjgplnmpjcaaGreatDoor.mac
open Go Go.Nx Go.Proofs.YtdhhjgplnmpjcaaGreatDoor.pk Go.Proofs.YtdhhjgplnmpjcaaGreatDoor.ac Go.Proofs.YtdhhjgplnmpjcaaGreatDoor.sto Go.Proofs.YtdhhjgplnmpjcaaGreatDoor.pge Go.Proofs.YtdhhjgplnmpjcaaGreatDoor.dec
theorem pk_tree1 (M : Mc) (row kd cd : Int) (ds bs : List Int) (R : Out → Prop) : (t_pkC (.ok ⟨1, row, kd, cd, ds⟩) [.c (.p 0 0 0), .c (.l .u8 bs)] (inM M)).run R = (([NV.c (.l .u8 bs)] = [NV.c (.l .u8 bs)] ∧ pkV bs = .ok ⟨1, row, kd, cd, ds⟩) ∧ pkT M 1 row kd cd ds R) := by kernel_rfl
theorem pk_tree2 (M : Mc) (row kd cd : Int) (ds bs : List Int) (R : Out → Prop) : (t_pkC (.ok ⟨2, row, kd, cd, ds⟩) [.c (.p 0 0 0), .c (.l .u8 bs)] (inM M)).run R = (([NV.c (.l .u8 bs)] = [NV.c (.l .u8 bs)] ∧ pkV bs = .ok ⟨2, row, kd, cd, ds⟩) ∧ pkT M 2 row kd cd ds R) := by kernel_rfl
theorem pk_tree3 (M : Mc) (row kd cd : Int) (ds bs : List Int) (R : Out → Prop) : (t_pkC (.ok ⟨3, row, kd, cd, ds⟩) [.c (.p 0 0 0), .c (.l .u8 bs)] (inM M)).run R = (([NV.c (.l .u8 bs)] = [NV.c (.l .u8 bs)] ∧ pkV bs = .ok ⟨3, row, kd, cd, ds⟩) ∧ pkT M 3 row kd cd ds R) := by kernel_rfl
theorem pk_tree4 (M : Mc) (row kd cd : Int) (ds bs : List Int) (R : Out → Prop) : (t_pkC (.ok ⟨4, row, kd, cd, ds⟩) [.c (.p 0 0 0), .c (.l .u8 bs)] (inM M)).run R = (([NV.c (.l .u8 bs)] = [NV.c (.l .u8 bs)] ∧ pkV bs = .ok ⟨4, row, kd, cd, ds⟩) ∧ pkT M 4 row kd cd ds R) := by kernel_rfl
end Go.Proofs.YtdhhjgplnmpjcaaGreatDoor.mac
namespace Go.Proofs.YtdhhjgplnmpjcaaGreatDoor.mac
open Go Go.Nx Go.Proofs.YtdhhjgplnmpjcaaGreatDoor.pk Go.Proofs.YtdhhjgplnmpjcaaGreatDoor.ac Go.Proofs.YtdhhjgplnmpjcaaGreatDoor.sto Go.Proofs.YtdhhjgplnmpjcaaGreatDoor.pge Go.Proofs.YtdhhjgplnmpjcaaGreatDoor.dec
theorem pk_tree5 (M : Mc) (row kd cd : Int) (ds bs : List Int) (R : Out → Prop) : (t_pkC (.ok ⟨5, row, kd, cd, ds⟩) [.c (.p 0 0 0), .c (.l .u8 bs)] (inM M)).run R = (([NV.c (.l .u8 bs)] = [NV.c (.l .u8 bs)] ∧ pkV bs = .ok ⟨5, row, kd, cd, ds⟩) ∧ pkT M 5 row kd cd ds R) := by kernel_rfl
theorem pk_tree6 (M : Mc) (row kd cd : Int) (ds bs : List Int) (R : Out → Prop) : (t_pkC (.ok ⟨6, row, kd, cd, ds⟩) [.c (.p 0 0 0), .c (.l .u8 bs)] (inM M)).run R = (([NV.c (.l .u8 bs)] = [NV.c (.l .u8 bs)] ∧ pkV bs = .ok ⟨6, row, kd, cd, ds⟩) ∧ pkT M 6 row kd cd ds R) := by kernel_rfl
theorem pk_tree7 (M : Mc) (row kd cd : Int) (ds bs : List Int) (R : Out → Prop) : (t_pkC (.ok ⟨7, row, kd, cd, ds⟩) [.c (.p 0 0 0), .c (.l .u8 bs)] (inM M)).run R = (([NV.c (.l .u8 bs)] = [NV.c (.l .u8 bs)] ∧ pkV bs = .ok ⟨7, row, kd, cd, ds⟩) ∧ pkT M 7 row kd cd ds R) := by kernel_rfl
theorem pk_tree8 (M : Mc) (row kd cd : Int) (ds bs : List Int) (R : Out → Prop) : (t_pkC (.ok ⟨8, row, kd, cd, ds⟩) [.c (.p 0 0 0), .c (.l .u8 bs)] (inM M)).run R = (([NV.c (.l .u8 bs)] = [NV.c (.l .u8 bs)] ∧ pkV bs = .ok ⟨8, row, kd, cd, ds⟩) ∧ pkT M 8 row kd cd ds R) := by kernel_rfl
end Go.Proofs.YtdhhjgplnmpjcaaGreatDoor.mac
namespace Go.Proofs.YtdhhjgplnmpjcaaGreatDoor.mac
open Go Go.Nx Go.Proofs.YtdhhjgplnmpjcaaGreatDoor.pk Go.Proofs.YtdhhjgplnmpjcaaGreatDoor.ac Go.Proofs.YtdhhjgplnmpjcaaGreatDoor.sto Go.Proofs.YtdhhjgplnmpjcaaGreatDoor.pge Go.Proofs.YtdhhjgplnmpjcaaGreatDoor.dec
noncomputable def Mc.pkM (M : Mc) (p : Px) : Mc × Option Nat :=
  match p.kd == 1 with
  | true => (match hdOk p.ds with
    | true => (M.hdM p.mg.toNat p.ds, none)
    | false => (M, some eBit))
  | false => match p.kd == 6 with
    | true => (match tr.regB p.kd p.cd p.ds with
      | true => (M.withV p.mg.toNat { M.v p.mg.toNat with rg := rgN p.kd p.cd p.ds, td := true }, none)
      | false => (M, none))
    | false => match p.kd == 7 with
      | true => (match sv.okK p.mg p.kd p.cd with
        | true => (match sv.all6 p.ds with
          | true => (match sv.clkG (sv.gD p.ds) with
            | true => ({ M with inf := ixV p.ds }, none)
            | false => (M, some eRng))
          | false => (M, some eBit))
        | false => (M, some eKnd))
      | false => (M.insM p.mg.toNat p, none)
noncomputable def Mc.step (M : Mc) (bs : List Int) : Mc × Option Nat := match pkV bs with
  | .bad k => (M, some k)
  | .ok p => M.pkM p
theorem pkM_good {M : Mc} (h : M.good) {p : Px} (hg : 1 ≤ p.mg ∧ p.mg ≤ 8) : (M.pkM p).1.good := by
  have hn : p.mg.toNat < 9 := by omega
  unfold Mc.pkM
  split
  · split
    · exact hdM_good h (by omega) _
    · exact h
  · split
    · split
      · exact h.upd hn (h.vfit _) (h.txt _)
      · exact h
    · split
      · split
        · split
          · split
            · exact ⟨h.far, h.nd, h.m1, h.m8, h.len, h.fit, h.vfit, h.txt⟩
            · exact h
          · exact h
        · exact h
      · exact insM_good h hn p
theorem kindF_cases (r : Int) : kindF r = 0 ∨ (kindF r = 1 ∧ r = 0) ∨ (kindF r = 2 ∧ 1 ≤ r ∧ r ≤ 24) ∨ (3 ≤ kindF r ∧ kindF r ≤ 7 ∧ 26 ≤ r ∧ r ≤ 30) := by
  unfold kindF
  by_cases h0 : r = 0
  · subst h0; exact .inr (.inl ⟨rfl, rfl⟩)
  · rw [decide_eq_false h0]
    by_cases h1 : 1 ≤ r ∧ r ≤ 24
    · refine .inr (.inr (.inl ⟨?_, h1⟩))
      simp [h1]
    · by_cases h2 : 26 ≤ r ∧ r ≤ 30
      · refine .inr (.inr (.inr ?_))
        have : r = 26 ∨ r = 27 ∨ r = 28 ∨ r = 29 ∨ r = 30 := by omega
        rcases this with rfl | rfl | rfl | rfl | rfl <;> decide
      · left
        have e1 : (decide (r ≥ 1) && decide (r ≤ 24)) = false := by
          rw [Bool.and_eq_false_iff]
          by_cases c : r ≥ 1
          · exact .inr (decide_eq_false fun h => h1 ⟨c, h⟩)
          · exact .inl (decide_eq_false c)
        have e2 : (decide (r ≥ 26) && decide (r ≤ 30)) = false := by
          rw [Bool.and_eq_false_iff]
          by_cases c : r ≥ 26
          · exact .inr (decide_eq_false fun h => h2 ⟨c, h⟩)
          · exact .inl (decide_eq_false c)
        simp [e1, e2]
theorem getN_rng (b : Int) : 0 ≤ getN b ∧ getN b < 16 := by
  unfold getN pk.get
  cases h : (List.range 16).find? (hit b) with
  | none => exact ⟨by decide, by decide⟩
  | some n =>
    have := List.mem_of_find?_eq_some h
    rw [List.mem_range] at this
    show 0 ≤ ((n : Nat) : Int) ∧ ((n : Nat) : Int) < 16
    omega
theorem magOf_rng (x : Int) (h : 0 ≤ x ∧ x < 16) : 1 ≤ magOf x ∧ magOf x ≤ 8 := by
  have : x = 0 ∨ x = 1 ∨ x = 2 ∨ x = 3 ∨ x = 4 ∨ x = 5 ∨ x = 6 ∨ x = 7 ∨ x = 8 ∨ x = 9 ∨ x = 10 ∨ x = 11 ∨ x = 12 ∨ x = 13 ∨ x = 14 ∨ x = 15 := by omega
  rcases this with rfl | rfl | rfl | rfl | rfl | rfl | rfl | rfl | rfl | rfl | rfl | rfl | rfl | rfl | rfl | rfl <;> decide
structure Fine (p : Px) : Prop where
  mg : 1 ≤ p.mg ∧ p.mg ≤ 8
  kd : 1 ≤ p.kd ∧ p.kd ≤ 7
  l40 : p.kd ≤ 2 → p.ds.length = 40
  l39 : 3 ≤ p.kd → p.ds.length = 39
  by' : ∀ b ∈ p.ds, 0 ≤ b ∧ b < 256
theorem pkV_fine {bs : List Int} {p : Px} (hb : ∀ b ∈ bs, 0 ≤ b ∧ b < 256) (h : pkV bs = .ok p) : Fine p := by
  unfold pkV at h
  split at h
  · cases h
  rename_i hl
  have hl := of_decide_eq_true hl
  split at h
  · cases h
  split at h
  · cases h
  rename_i hk
  have hk := of_decide_eq_false hk
  have hm := magOf_rng _ (getN_rng (bs.getD 0 0))
  have hc := kindF_cases (rwB bs)
  split at h
  · rename_i hr
    have hr := of_decide_eq_false hr
    cases h
    refine ⟨hm, ⟨?_, ?_⟩, fun _ => ?_, fun h3 => ?_, fun b hb' => hb b (List.mem_of_mem_drop hb')⟩
    · simp only; omega
    · simp only; omega
    · simp only [List.length_drop]; omega
    · simp only at h3; omega
  · rename_i hr
    have hr := of_decide_eq_true hr
    split at h
    · cases h
      refine ⟨hm, ⟨?_, ?_⟩, fun h3 => ?_, fun _ => ?_, fun b hb' => hb b (List.mem_of_mem_drop (List.mem_of_mem_drop hb'))⟩
      · simp only; omega
      · simp only; omega
      · simp only at h3; omega
      · simp only [List.length_drop]; omega
    · cases h
theorem pkV_bad {bs : List Int} {k : Nat} (h : pkV bs = .bad k) : k = eLen ∨ k = eBit ∨ k = eKnd := by
  unfold pkV at h
  split at h
  · cases h; exact .inl rfl
  split at h
  · cases h; exact .inr (.inl rfl)
  split at h
  · cases h; exact .inr (.inr rfl)
  split at h
  · cases h
  split at h
  · cases h
  · cases h; exact .inr (.inl rfl)
theorem step_good {M : Mc} (h : M.good) {bs : List Int} (hb : ∀ b ∈ bs, 0 ≤ b ∧ b < 256) : (M.step bs).1.good := by
  unfold Mc.step
  split
  · exact h
  · rename_i p hp
    exact pkM_good h (pkV_fine hb hp).mg
def ncE : Option Nat → NC
  | none => .en
  | some k => .e k
noncomputable def errT (e : Option Nat) (M : Mc) : Tr Out :=
  .br (e == none) (.ret (oMe M .en)) (.br (e == some eLen) (.ret (oMe M (.e eLen))) (.br (e == some eBit) (.ret (oMe M (.e eBit))) (.br (e == some eKnd) (.ret (oMe M (.e eKnd))) (.ret (oMe M (.e eRng))))))
theorem errT_run {e : Option Nat} {M : Mc} {R : Out → Prop} (he : e = none ∨ e = some eLen ∨ e = some eBit ∨ e = some eKnd ∨ e = some eRng) (h : (errT e M).run R) : R (oMe M (ncE e)) := by
  rcases he with rfl | rfl | rfl | rfl | rfl
  all_goals exact h
theorem pkT_of {M : Mc} {p : Px} {g : Nat} {R : Out → Prop} (hg : (g : Int) = p.mg) (hM : M.good) (hp : Fine p) (h : R (oMe (M.pkM p).1 (ncE (M.pkM p).2))) : pkT M g p.row p.kd p.cd p.ds R := by
  have hgn : p.mg.toNat = g := by omega
  unfold pkT
  rw [hM.bk, hg]
  unfold Mc.pkM at h
  rw [hgn] at h
  cases h1 : (p.kd == 1) with
  | true =>
    have e1 := eq_of_beq h1
    rw [h1] at h
    refine sT rfl ⟨⟨rfl, hM.ok⟩, ⟨by rw [e1], hp.mg, hM, hp.l40 (by omega), hp.by'⟩, ?_⟩
    cases ho : hdOk p.ds with
    | true => rw [ho] at h; exact sT rfl h
    | false => rw [ho] at h; exact sF rfl h
  | false =>
    rw [h1] at h
    refine sF rfl ?_
    cases h6 : (p.kd == 6) with
    | true =>
      have e6 := eq_of_beq h6
      rw [h6] at h
      have hl := hp.l39 (by omega)
      refine sT rfl ⟨⟨by omega, by omega, hp.by'⟩, ?_⟩
      cases ho : tr.regB p.kd p.cd p.ds with
      | true => rw [ho] at h; exact sT rfl h
      | false => rw [ho] at h; exact sF rfl h
    | false =>
      rw [h6] at h
      refine sF rfl ?_
      cases h7 : (p.kd == 7) with
      | true =>
        have e7 := eq_of_beq h7
        rw [h7] at h
        refine sT rfl ⟨fun _ => ⟨hp.l39 (by omega), hp.by'⟩, ?_⟩
        cases ho : sv.okK p.mg p.kd p.cd with
        | false => rw [ho] at h; exact sF rfl h
        | true =>
          rw [ho] at h
          refine sT rfl ?_
          cases ha : sv.all6 p.ds with
          | false => rw [ha] at h; exact sF rfl h
          | true =>
            rw [ha] at h
            refine sT rfl ?_
            cases hc : sv.clkG (sv.gD p.ds) with
            | false => rw [hc] at h; exact sF rfl h
            | true => rw [hc] at h; exact sT rfl h
      | false =>
        rw [h7] at h
        exact sF rfl ⟨⟨rfl, hM.ok⟩, ⟨rfl, hp.mg, hM, fun h3 => hp.l39 (by omega), hp.by'⟩, h⟩
theorem onM_in {M : Mc} {f : Mc → Tr Out} {R : Out → Prop} (hM : M.ok) (h : (f M).run R) : (onM (inM M) f).run R := by
  have e : bk M = M := bk_eq M hM.1
  show ((inM M = inM (bk M) ∧ (bk M).ok) ∧ (f (bk M)).run R)
  rw [e]
  exact ⟨⟨rfl, hM⟩, h⟩
noncomputable def tPk : Con := fun args regs => match args with
  | [.c (.p 0 0 0), .c (.l _ bs)] => onM regs fun M => .must (args = [.c (.p 0 0 0), .c (.l .u8 bs)] ∧ M.good ∧ ∀ b ∈ bs, 0 ≤ b ∧ b < 256) (errT (M.step bs).2 (M.step bs).1)
  | [.c (.p 0 0 0), .c .sn] => onM regs fun M => .ret (oMe M (.e eLen))
  | _ => .fail
theorem Known_any {P : Program} {gl : List Nat} {f : FuncId} {ι : Type} {T : ι → Con} {T' : Con} (i0 : ι) (hk : ∀ i, Known P gl f (T i)) (h : ∀ args regs R, (T' args regs).run R → ∃ i, (T i args regs).run R) : Known P gl f T' :=
  ⟨(hk i0).goes, fun args regs R hr => by obtain ⟨i, hi⟩ := h args regs R hr; exact (hk i).sound args regs R hi⟩
theorem pkM_err (M : Mc) (p : Px) : (M.pkM p).2 = none ∨ (M.pkM p).2 = some eLen ∨ (M.pkM p).2 = some eBit ∨ (M.pkM p).2 = some eKnd ∨ (M.pkM p).2 = some eRng := by
  unfold Mc.pkM
  split
  · split
    · exact .inl rfl
    · exact .inr (.inr (.inl rfl))
  · split
    · split <;> exact .inl rfl
    · split
      · split
        · split
          · split
            · exact .inl rfl
            · exact .inr (.inr (.inr (.inr rfl)))
          · exact .inr (.inr (.inl rfl))
        · exact .inr (.inr (.inr (.inl rfl)))
      · exact .inl rfl
theorem step_err (M : Mc) (bs : List Int) : (M.step bs).2 = none ∨ (M.step bs).2 = some eLen ∨ (M.step bs).2 = some eBit ∨ (M.step bs).2 = some eKnd ∨ (M.step bs).2 = some eRng := by
  unfold Mc.step
  split
  · rename_i k hk
    rcases pkV_bad hk with rfl | rfl | rfl
    · exact .inr (.inl rfl)
    · exact .inr (.inr (.inl rfl))
    · exact .inr (.inr (.inr (.inl rfl)))
  · exact pkM_err M _
set_option maxRecDepth 100000 in
attribute [local irreducible] t_pkC pkT inM in
set_option maxHeartbeats 1000000 in
theorem pk_in {M : Mc} {bs : List Int} {R : Out → Prop} (hM : M.good) (hb : ∀ b ∈ bs, 0 ≤ b ∧ b < 256) (h : R (oMe (M.step bs).1 (ncE (M.step bs).2))) : (t_pkC (pkV bs) [.c (.p 0 0 0), .c (.l .u8 bs)] (inM M)).run R := by
  unfold Mc.step at h
  cases hq : pkV bs with
  | bad k =>
    rw [hq] at h
    rcases pkV_bad hq with rfl | rfl | rfl
    · exact (pk_treeBL M bs R).mpr ⟨⟨rfl, hq⟩, h⟩
    · exact (pk_treeBB M bs R).mpr ⟨⟨rfl, hq⟩, h⟩
    · exact (pk_treeBK M bs R).mpr ⟨⟨rfl, hq⟩, h⟩
  | ok p =>
    rw [hq] at h
    have hp := pkV_fine hb hq
    have key : ∀ g : Nat, (g : Int) = p.mg → pkT M g p.row p.kd p.cd p.ds R := fun g hg => pkT_of hg hM hp h
    clear h
    obtain ⟨g, row, kd, cd, ds⟩ := p
    have hg : g = 1 ∨ g = 2 ∨ g = 3 ∨ g = 4 ∨ g = 5 ∨ g = 6 ∨ g = 7 ∨ g = 8 := by have := hp.mg; simp only at this; omega
    rcases hg with rfl | rfl | rfl | rfl | rfl | rfl | rfl | rfl
    · exact (pk_tree1 M row kd cd ds bs R).mpr ⟨⟨rfl, hq⟩, key 1 rfl⟩
    · exact (pk_tree2 M row kd cd ds bs R).mpr ⟨⟨rfl, hq⟩, key 2 rfl⟩
    · exact (pk_tree3 M row kd cd ds bs R).mpr ⟨⟨rfl, hq⟩, key 3 rfl⟩
    · exact (pk_tree4 M row kd cd ds bs R).mpr ⟨⟨rfl, hq⟩, key 4 rfl⟩
    · exact (pk_tree5 M row kd cd ds bs R).mpr ⟨⟨rfl, hq⟩, key 5 rfl⟩
    · exact (pk_tree6 M row kd cd ds bs R).mpr ⟨⟨rfl, hq⟩, key 6 rfl⟩
    · exact (pk_tree7 M row kd cd ds bs R).mpr ⟨⟨rfl, hq⟩, key 7 rfl⟩
    · exact (pk_tree8 M row kd cd ds bs R).mpr ⟨⟨rfl, hq⟩, key 8 rfl⟩
attribute [local irreducible] t_pkC in
set_option maxRecDepth 100000 in
theorem kPk : Known Tryz.prog GL 12 tPk := by
  refine Known_any (.bad 0) k_pkC fun args regs R h => ?_
  unfold tPk at h
  split at h
  case h_3 => exact h.elim
  case h_1 =>
    rename_i _ bs
    obtain ⟨M, rfl, hM, ⟨h1, hg, hb⟩, h⟩ := onM_elim h
    rw [h1]
    exact ⟨pkV bs, pk_in hg hb (errT_run (step_err M bs) h)⟩
  case h_2 =>
    obtain ⟨M, rfl, hM, h⟩ := onM_elim h
    exact ⟨.bad eLen, (pk_treeN M R).mpr ⟨rfl, h⟩⟩
noncomputable def tPkN : Con := fun args regs => match args with
  | [.c (.p 0 0 0), .c (.l _ bs)] => onM regs fun M => .must (args = [.c (.p 0 0 0), .c (.l .u8 bs)] ∧ M.good ∧ (∀ b ∈ bs, 0 ≤ b ∧ b < 256) ∧ (M.step bs).2 = none) (.ret (oMe (M.step bs).1 .en))
  | [.c (.p 0 0 0), .c .sn] => onM regs fun M => .ret (oMe M (.e eLen))
  | _ => .fail
theorem kPkN : Known Tryz.prog GL 12 tPkN := by
  refine kPk.less fun args regs R h => ?_
  unfold tPkN at h
  split at h
  case h_3 => exact h.elim
  case h_1 =>
    rename_i _ bs
    obtain ⟨M, rfl, hM, ⟨h1, hg, hb, he⟩, h⟩ := onM_elim h
    rw [h1]
    refine onM_in (f := fun M => .must ([NV.c (.p 0 0 0), .c (.l .u8 bs)] = [.c (.p 0 0 0), .c (.l .u8 bs)] ∧ M.good ∧ ∀ b ∈ bs, 0 ≤ b ∧ b < 256) (errT (M.step bs).2 (M.step bs).1)) hM ⟨⟨rfl, hg, hb⟩, ?_⟩
    rw [he]
    exact h
  case h_2 => exact h
end Go.Proofs.YtdhhjgplnmpjcaaGreatDoor.mac
namespace Go.Proofs.YtdhhjgplnmpjcaaGreatDoor.mac
open Go Go.Nx Go.Proofs.YtdhhjgplnmpjcaaGreatDoor.pk Go.Proofs.YtdhhjgplnmpjcaaGreatDoor.ac Go.Proofs.YtdhhjgplnmpjcaaGreatDoor.sto Go.Proofs.YtdhhjgplnmpjcaaGreatDoor.pge Go.Proofs.YtdhhjgplnmpjcaaGreatDoor.dec
theorem clN_tree (R : Out → Prop) : (t_clT [.c .sn] []).run R = R ⟨.v (.c (.lr K3 [])), []⟩ := by kernel_rfl
noncomputable def tclTN : Con := fun args regs => match args, regs with
  | [.c .sn], [] => .ret ⟨.v (.c (.lr K3 [])), []⟩
  | [.c (.lr ks xs)], [] => tclTV [.c (.lr ks xs)] []
  | _, _ => .fail
noncomputable def clAny : Bool → Con
  | true => t_clT
  | false => tclTV
set_option maxRecDepth 100000 in
attribute [local irreducible] t_clT in
theorem kclTN : Known Tryz.prog GL 105 tclTN := by
  refine Known_any (T := clAny) true (fun b => by cases b; exact kclTV; exact kt_clT) fun args regs R h => ?_
  unfold tclTN at h
  split at h
  · exact ⟨true, (Box.of_eq (clN_tree R) h).out⟩
  · exact ⟨false, h⟩
  · exact h.elim
noncomputable def c_own1 : FuncId → Option Con := conOf [(105, tclTN)]
theorem kc_own1 : ∀ f T, c_own1 f = some T → Known Tryz.prog GL f T := (Knowns.cons kclTN .nil).get
noncomputable def t_own1 : Con := fun args regs => nfun Tryz.prog GL c_own1 [] Tryz.f53 args regs
theorem k_own1 : Known Tryz.prog GL 53 t_own1 := known_inl Tryz.func53 rfl (by kernel_rfl) mixed kc_own1 (by kernel_rfl)
noncomputable def pgN (p : Pg) : NV := .sg (pgSegs p .sn [] fun q => [.cells q])
theorem own1_tree (p : Pg) (R : Out → Prop) : (t_own1 [pgV p] []).run R = (([NV.c (.lr K3 p.ex)] = [NV.c (.lr K3 p.ex)] ∧ p.ex.length ≤ 1000000) ∧ R (oPg p)) := by kernel_rfl
theorem own1_nil (R : Out → Prop) : (t_own1 [pgN pgZ] []).run R = R (oPg pgZ) := by kernel_rfl
noncomputable def tOwnN : Con := fun args regs => match args, regs with
  | [v], [] => (match rdPg v with
    | some p => .must (args = [pgV p] ∧ fits p) (.ret (oPg p))
    | none => .must (args = [pgN pgZ]) (.ret (oPg pgZ)))
  | _, _ => .fail
attribute [local irreducible] t_own1 in
set_option maxRecDepth 100000 in
theorem kOwnN : Known Tryz.prog GL 53 tOwnN := by
  refine k_own1.less fun args regs R h => ?_
  unfold tOwnN at h
  split at h
  case h_2 => exact h.elim
  split at h
  · rename_i p _
    obtain ⟨⟨h1, h2⟩, h⟩ := h
    rw [h1]
    unfold fits at h2
    exact (Box.of_eq (own1_tree p R) ⟨⟨rfl, by omega⟩, h⟩).out
  · obtain ⟨h1, h⟩ := h
    rw [h1]
    exact (Box.of_eq (own1_nil R) h).out
noncomputable def c_fd2 : FuncId → Option Con := conOf [(52, tGe), (53, tOwnN), (54, t_all)]
theorem kc_fd2 : ∀ f T, c_fd2 f = some T → Known Tryz.prog GL f T := (Knowns.cons kGe (.cons kOwnN (.cons k_all .nil))).get
noncomputable def XFe : Cx := { P := Tryz.prog, con := c_fd2, glob := GL, m := 4, loops := [] }
noncomputable def XIt : Cx := { P := Tryz.prog, con := cIt, glob := GL, m := 9, loops := [] }
noncomputable def fr0 : List NS := frame 50 [(3, .v (.c (.p 4 0 0))), (4, .v (.c (.p 5 0 0))), (8, .v (.c (.p 6 0 0))), (9, .v (.c (.p 7 0 0))), (31, .v (.c (.cl 106 [(8, 0, 0)])))]
noncomputable def YF : Yh := bodyY XFe (psOf rgF) (asOf rgF) (bdOf rgF) fr0
noncomputable def frIt (n i : Int) (l : Nat) : List NS := frame 32 [(0, .v (.c (.e 1000))), (1, .v (.c (.p 8 0 0))), (8, .v (.c (.hz 9 l))), (9, .v (.c (.i .i64 n))), (10, .v (.c (.i .i64 i)))]
noncomputable def pgO : Option Pg → Reg
  | some p => pgReg p (.lr K3 p.ex)
  | none => pgReg pgZ .sn
noncomputable def rgI (M : Mc) (k : Ky) (o : Option Pg) : List (Option Reg) := [some (mcG 1 M.v M.inf), some (stM M.st.sto (.hz 3 M.st.sto.l.length)), some (mpReg M.st.sto.m), some (ordReg (kyRows M.st.sto.l)), some (plReg k), some (pgReg pgZ .sn), some (pgO o), some ⟨1, 4, .cells [.b o.isSome]⟩, some ⟨1, 87, .cells [.p 1 0 0]⟩]
noncomputable def SF (M : Mc) (k : Ky) (o : Option Pg) (i : Int) : St := { fr := frIt M.st.L.length i M.st.L.length, rg := rgI M k o ++ [some (ordReg (kyRows (M.st.L.map kyP)))] }
noncomputable def DF (M : Mc) (k : Ky) (o : Option Pg) : St := { fr := frame 32 [], rg := rgI M k o }
noncomputable abbrev itC : Code := bodyLoop f_it 0
noncomputable def rndF (s : St) : Tr ROI := roundI XIt YF KI [] 0 [0, 1, 8, 9, 10] [] itC s Option.none
def rkF (M : Mc) (i : Int) : Ky := toKy ((kyRows (M.st.L.map kyP)).getD i.toNat [])
noncomputable def nxF (M : Mc) (k : Ky) (o : Option Pg) (i : Int) (R : ROI → Prop) : Prop := R (.next (SF M k o (IntKind.i64.wrap (i + 1))) Option.none)
noncomputable def inF (M : Mc) (k : Ky) (o : Option Pg) (i : Int) (R : ROI → Prop) : Prop :=
  sel (decide (i < (M.st.L.length : Int))) (sel (decide (0 ≤ i)) (sel (decide (i < (M.st.L.length : Int))) (sel (decide (i.toNat < (kyRows (M.st.L.map kyP)).length)) (sel (mpHas plSch (kyFC (rkF M i)) M.st.sto.m)
    (true = true ∧ sel ((rkF M i).1 == k.1) (sel ((rkF M i).2.1 == k.2.1) (nxF M k (some (ofRow (mpGet plSch (kyFC (rkF M i)) M.st.sto.m))) i R) (nxF M k o i R)) (nxF M k o i R)) (nxF M k o i R)) False) False) False) (R (.done .normal (DF M k o) Option.none))
theorem round_F0 (M : Mc) (k : Ky) (i : Int) (R : ROI → Prop) : (rndF (SF M k none i)).run R = inF M k none i R := by kernel_rfl
theorem round_F1 (M : Mc) (k : Ky) (p : Pg) (i : Int) (R : ROI → Prop) : (rndF (SF M k (some p) i)).run R = inF M k (some p) i R := by kernel_rfl
theorem round_F (M : Mc) (k : Ky) (i : Int) (R : ROI → Prop) : ∀ o : Option Pg, (rndF (SF M k o i)).run R = inF M k o i R
  | none => round_F0 M k i R
  | some p => round_F1 M k p i R
end Go.Proofs.YtdhhjgplnmpjcaaGreatDoor.mac
namespace Go.Proofs.YtdhhjgplnmpjcaaGreatDoor.mac
open Go Go.Nx Go.Proofs.YtdhhjgplnmpjcaaGreatDoor.pk Go.Proofs.YtdhhjgplnmpjcaaGreatDoor.ac Go.Proofs.YtdhhjgplnmpjcaaGreatDoor.sto Go.Proofs.YtdhhjgplnmpjcaaGreatDoor.pge Go.Proofs.YtdhhjgplnmpjcaaGreatDoor.dec
def hitF (k : Ky) (p : Pg) : Bool := (p.mg == k.1) && (p.pn == k.2.1)
def stepF (k : Ky) (o : Option Pg) (p : Pg) : Option Pg := match hitF k p with
  | true => some p
  | false => o
def lastF (k : Ky) (L : List Pg) : Option Pg := L.foldl (stepF k) none
theorem rk_eq {M : Mc} {i : Int} (h : i.toNat < M.st.L.length) : rkF M i = kyP M.st.L[i.toNat] := by
  unfold rkF
  rw [kyRows_getD (by rw [List.length_map]; exact h), List.getD_eq_getElem?_getD, List.getElem?_map, List.getElem?_eq_getElem h]
  rfl
theorem find_nd : ∀ {L : List Pg} {n : Nat} (hn : n < L.length), (L.map kyP).Nodup → L.find? (fun p => kyEq (kyP L[n]) (kyP p)) = some L[n]
  | [], n, hn, _ => absurd hn (Nat.not_lt_zero _)
  | q :: L, 0, _, _ => by
    rw [List.find?_cons]
    show (match kyEq (kyP q) (kyP q) with | true => some q | false => _) = some q
    rw [kyEq_iff.2 rfl]
  | q :: L, n + 1, hn, h => by
    rw [List.map_cons, List.nodup_cons] at h
    have hn' : n < L.length := Nat.lt_of_succ_lt_succ hn
    rw [List.find?_cons]
    show (match kyEq (kyP L[n]) (kyP q) with | true => some q | false => L.find? (fun p => kyEq (kyP L[n]) (kyP p))) = some L[n]
    cases hk : kyEq (kyP L[n]) (kyP q) with
    | true => exact (h.1 (kyEq_iff.1 hk ▸ List.mem_map.2 ⟨L[n], List.getElem_mem hn', rfl⟩)).elim
    | false => exact find_nd hn' h.2
theorem mp_nth {L : List Pg} {n : Nat} (hn : n < L.length) (h : (L.map kyP).Nodup) : mpHas plSch (kyFC (kyP L[n])) (ents L) = true ∧ ofRow (mpGet plSch (kyFC (kyP L[n])) (ents L)) = L[n] := by
  have := mp_find (kyP L[n]) L
  rw [find_nd hn h] at this
  exact this
structure AF where
  o : Option Pg
  i : Int
noncomputable def endF (M : Mc) (k : Ky) (o : Option Pg) : Tr (NExit × St × Option NExit) := .br o.isSome (.ret (.normal, DF M k (some (o.getD pgZ)), Option.none)) (.ret (.normal, DF M k none, Option.none))
def preF (M : Mc) (k : Ky) (a : AF) (R : NExit × St × Option NExit → Prop) : Prop := (0 ≤ a.i ∧ a.i ≤ (M.st.L.length : Int)) ∧ M.good ∧ (endF M k ((M.st.L.drop a.i.toNat).foldl (stepF k) a.o)).run R
noncomputable def hF (M : Mc) (k : Ky) (a : AF) : St × Option NExit := (SF M k a.o a.i, Option.none)
def nxtF (M : Mc) (k : Ky) (a : AF) (R : NExit × St × Option NExit → Prop) (o : ROI) : Prop := match o with
  | .next s p => ∃ y, (s, p) = hF M k y ∧ ((M.st.L.length : Int) - y.i).toNat < ((M.st.L.length : Int) - a.i).toNat ∧ preF M k y R
  | .done e s p => R (e, s, p)
theorem inF_in (M : Mc) (k : Ky) (a : AF) (R : NExit × St × Option NExit → Prop) (h : preF M k a R) : inF M k a.o a.i (nxtF M k a R) := by
  obtain ⟨o, i⟩ := a
  obtain ⟨⟨h0, hle⟩, hg, hR⟩ := h
  simp only at h0 hle hR
  unfold inF
  by_cases hlt : i < (M.st.L.length : Int)
  · have hj : i.toNat < M.st.L.length := by omega
    have hl8 := hg.lt
    have hw : IntKind.i64.wrap (i + 1) = i + 1 := by rw [IntKind.wrap_i64]; omega
    have ht : (i + 1).toNat = i.toNat + 1 := by omega
    have nx : ∀ o', (endF M k ((M.st.L.drop (i.toNat + 1)).foldl (stepF k) o')).run R → nxF M k o' i (nxtF M k ⟨o, i⟩ R) := fun o' h' => by
      unfold nxF
      rw [hw]
      exact ⟨⟨o', i + 1⟩, rfl, by simp only; omega, ⟨by simp only; omega, by simp only; omega⟩, hg, by simp only; rw [ht]; exact h'⟩
    rw [List.drop_eq_getElem_cons hj, List.foldl_cons] at hR
    have hm := mp_nth hj hg.nd
    rw [rk_eq hj]
    refine sT (decide_eq_true hlt) (sT (decide_eq_true h0) (sT (decide_eq_true hlt) (sT (decide_eq_true (by rw [kyRows_length, List.length_map]; exact hj)) ?_)))
    show sel (mpHas plSch (kyFC (kyP M.st.L[i.toNat])) (ents M.st.L)) (true = true ∧ sel _ (sel _ (nxF M k (some (ofRow (mpGet plSch (kyFC (kyP M.st.L[i.toNat])) (ents M.st.L)))) i _) _) _) _
    rw [hm.2]
    refine sT hm.1 ⟨rfl, ?_⟩
    generalize M.st.L[i.toNat] = p at hR ⊢
    show sel (p.mg == k.1) (sel (p.pn == k.2.1) _ _) _
    cases h1 : p.mg == k.1 with
    | false =>
      refine nx o ?_
      unfold stepF hitF at hR
      rw [h1] at hR
      exact hR
    | true =>
      show sel (p.pn == k.2.1) _ _
      cases h2 : p.pn == k.2.1 with
      | false =>
        refine nx o ?_
        unfold stepF hitF at hR
        rw [h1, h2] at hR
        exact hR
      | true =>
        refine nx (some p) ?_
        unfold stepF hitF at hR
        rw [h1, h2] at hR
        exact hR
  · refine sF (decide_eq_false hlt) ?_
    rw [List.drop_eq_nil_iff.2 (by omega)] at hR
    cases o with
    | none => exact hR
    | some p => exact hR
set_option maxRecDepth 100000 in
theorem loop_F (M : Mc) (k : Ky) : LOkI Tryz.prog GL 9 KI YF 0 itC (fun s => .must (s = (SF M k none 0, Option.none) ∧ M.good) (endF M k (lastF k M.st.L))) := by
  refine loopI_ok (X := XIt) (ls := []) kcIt (by kernel_rfl) (LAllI.none (by kernel_rfl)) [0, 1, 8, 9, 10] [] (hF M k) (fun a => ((M.st.L.length : Int) - a.i).toNat) (preF M k) ?_ ?_
  · rintro s R ⟨⟨hs, hg⟩, hR⟩
    exact ⟨⟨none, 0⟩, hs, ⟨by simp only; omega, by simp only; omega⟩, hg, hR⟩
  · intro a R h
    have := (Box.of_eq (round_F M k a.i (nxtF M k a R) a.o) (inF_in M k a R h)).out
    exact Tr.run_mono _ (fun o ho => ho) this
noncomputable def LF (M : Mc) (k : Ky) (m : Nat) (fr : List NS) (s : St × Option NExit) : Tr (NExit × St × Option NExit) := .must ((m = 9 ∧ fr = fr0) ∧ s = (SF M k none 0, Option.none) ∧ M.good) (endF M k (lastF k M.st.L))
theorem loop_F' (M : Mc) (k : Ky) (m : Nat) (fr : List NS) : LOkI Tryz.prog GL m KI (bodyY XFe (psOf rgF) (asOf rgF) (bdOf rgF) fr) 0 itC (LF M k m fr) := by
  intro l rc N Γ0 w0 h0 hN h0k h0r hY s p Γ a w R Q hI hE hW hL hK
  unfold LF at hL
  obtain ⟨⟨⟨rfl, hfr⟩, h2⟩, h4⟩ := hL
  rw [hfr] at hY
  exact loop_F M k l rc N Γ0 w0 h0 hN h0k h0r hY s p Γ a w R Q hI hE hW ⟨h2, h4⟩ hK
noncomputable def lsF (M : Mc) (k : Ky) (m : Nat) (fr : List NS) : LI := [(0, [0, 1, 8, 9, 10], LF M k m fr)]
noncomputable def RF (M : Mc) (k : Ky) : St → Tr (NExit × St) := rangeT XFe KI cIt (lsF M k) 0 [4, 8, 9] 106 f_it rgF
noncomputable def codeIt : Code := f_it.body.getD .skip
theorem it_body : f_it.body = some codeIt := by kernel_rfl
theorem it_loops : loopsIn codeIt = [(0, itC)] := by kernel_rfl
theorem rgF_eq : rgF = .rangeFunc (.tmp 31) (psOf rgF) (asOf rgF) (bdOf rgF) := by kernel_rfl
theorem con_e : ∀ f T, XFe.con f = some T → Known Tryz.prog GL f T := kc_fd2
theorem rF_ok (M : Mc) (k : Ky) : RgOk Tryz.prog GL 4 0 rgF (RF M k) := by
  have h := rangeT_ok (X := XFe) con_e (K := KI) kcIt (ls := lsF M k) (id := 0) (out := [4, 8, 9]) (g := .tmp 31) (ps := psOf rgF) (assign := asOf rgF) (body := bdOf rgF) Tryz.func106 it_body (by kernel_rfl) (by kernel_rfl) (by kernel_rfl) (by kernel_rfl) (by kernel_rfl)
    (fun m fr => LAllI.one (id := 0) (body := itC) (live := [0, 1, 8, 9, 10]) (L := LF M k m fr) it_loops rfl (loop_F' M k m fr))
  rw [← rgF_eq] at h
  exact h
noncomputable def lpF (M : Mc) (k : Ky) : List (Nat × List Nat × (St → Tr (NExit × St))) := [(0, [3, 4, 8, 9, 31], RF M k)]
noncomputable def t_fd (M : Mc) (k : Ky) : Con := fun args regs => if regs.length = 4 then nfun Tryz.prog GL c_fd2 (lpF M k) f_fd args regs else .fail
theorem fd_loops : loopsIn (f_fd.body.getD .skip) = [] := by kernel_rfl
theorem fd_ranges : rangesIn (f_fd.body.getD .skip) = [(0, rgF)] := by kernel_rfl
theorem k_fd (M : Mc) (k : Ky) : Known Tryz.prog GL 19 (t_fd M k) := by
  refine known_loops (c := f_fd.body.getD .skip) 4 Tryz.func19 (by kernel_rfl) (by kernel_rfl) mixed kc_fd2 ⟨fun i b hb x hf => ?_, fun i b hb x hf => ?_⟩
  · rw [fd_loops] at hb
    cases hb
  · rw [fd_ranges, List.mem_singleton] at hb
    cases hb
    have : x = (0, [3, 4, 8, 9, 31], RF M k) := by simpa [lpF] using hf.symm
    subst this
    exact rF_ok M k
end Go.Proofs.YtdhhjgplnmpjcaaGreatDoor.mac
namespace Go.Proofs.YtdhhjgplnmpjcaaGreatDoor.mac
open Go Go.Nx Go.Proofs.YtdhhjgplnmpjcaaGreatDoor.pk Go.Proofs.YtdhhjgplnmpjcaaGreatDoor.ac Go.Proofs.YtdhhjgplnmpjcaaGreatDoor.sto Go.Proofs.YtdhhjgplnmpjcaaGreatDoor.pge Go.Proofs.YtdhhjgplnmpjcaaGreatDoor.dec
noncomputable def oFd (M : Mc) (x : Pg × Bool) : Out := ⟨.tu [pgV x.1, .c (.b x.2)], (inM M).map some⟩
noncomputable def eqSt (M : Mc) (x : Sp) (A : Prop) : Prop := some (stM M.st.sto (.hz 3 M.st.sto.l.length)) = some (stM x.sto (.hz 3 x.sto.l.length)) ∧ (some (mpReg M.st.sto.m) = some (mpReg x.sto.m) ∧ (some (ordReg (kyRows M.st.sto.l)) = some (ordReg (kyRows x.sto.l)) ∧ A))
noncomputable def fdT (M : Mc) (k : Ky) (R : Out → Prop) : Prop :=
  sel (k.2.2 != 16255)
    ((inP M.st = inP (mpP M.st) ∧ (mpP M.st).ok) ∧ eqSt M (mpP M.st) (([pgV ((mpP M.st).get k).1] = [pgV ((mpP M.st).get k).1] ∧ fits ((mpP M.st).get k).1) ∧ R (oFd M ((mpP M.st).get k))))
    ((inP M.st = inP (mpP M.st) ∧ (mpP M.st).ok) ∧ (((9 = 9 ∧ fr0 = fr0) ∧ (SF { M with st := mpP M.st } k none 0, Option.none) = (SF M k none 0, (Option.none : Option NExit)) ∧ M.good) ∧
      sel (lastF k M.st.L).isSome (([pgV ((lastF k M.st.L).getD pgZ)] = [pgV ((lastF k M.st.L).getD pgZ)] ∧ fits ((lastF k M.st.L).getD pgZ)) ∧ R (oFd M ((lastF k M.st.L).getD pgZ, true)))
        ([pgN pgZ] = [pgN pgZ] ∧ R (oFd M (pgZ, false)))))
theorem fd_tree (M : Mc) (a b c : Int) (R : Out → Prop) : (t_fd M (a, b, c) [.c (.p 0 0 0), .ag (kyNC (a, b, c))] (inM M)).run R = fdT M (a, b, c) R := by kernel_rfl
def Mc.find (M : Mc) (k : Ky) : Pg × Bool := match k.2.2 != 16255 with
  | true => M.st.get k
  | false => ((lastF k M.st.L).getD pgZ, (lastF k M.st.L).isSome)
theorem fold_mem (k : Ky) : ∀ (L : List Pg) (o : Option Pg) {p : Pg}, L.foldl (stepF k) o = some p → o = some p ∨ p ∈ L
  | [], o, p, h => .inl h
  | q :: L, o, p, h => by
    rcases fold_mem k L _ h with h | h
    · unfold stepF at h
      split at h
      · cases h; exact .inr (List.mem_cons_self ..)
      · exact .inl h
    · exact .inr (List.mem_cons_of_mem _ h)
theorem last_fits {M : Mc} (h : M.good) (k : Ky) : fits ((lastF k M.st.L).getD pgZ) := by
  cases hl : lastF k M.st.L with
  | none => exact fits_z
  | some p =>
    rcases fold_mem k _ _ hl with h' | h'
    · cases h'
    · exact h.fit p h'
set_option maxRecDepth 100000 in
theorem fd_in {M : Mc} {k : Ky} {R : Out → Prop} (hM : M.good) (h : R (oFd M (M.find k))) : fdT M k R := by
  unfold fdT
  rw [mpP_eq]
  unfold Mc.find at h
  cases hs : k.2.2 != 16255 with
  | true =>
    rw [hs] at h
    exact ⟨⟨rfl, hM.ok.2⟩, rfl, rfl, rfl, ⟨rfl, get_fits hM.fit k⟩, h⟩
  | false =>
    rw [hs] at h
    refine ⟨⟨rfl, hM.ok.2⟩, ⟨⟨rfl, rfl⟩, rfl, hM⟩, ?_⟩
    have hf := last_fits hM k
    cases hl : lastF k M.st.L with
    | none =>
      rw [hl] at h
      exact ⟨rfl, h⟩
    | some p =>
      rw [hl] at h hf
      exact ⟨⟨rfl, hf⟩, h⟩
noncomputable def tFd : Con := fun args regs => match args with
  | [.c (.p 0 0 0), .ag [.i _ a, .i _ b, .i _ c]] => onM regs fun M => .must (args = [.c (.p 0 0 0), .ag (kyNC (a, b, c))] ∧ M.good) (.ret (oFd M (M.find (a, b, c))))
  | _ => .fail
def mcZ : Mc := ⟨fun _ => mvZ, ixZ, ⟨1, ky0, false, []⟩⟩
attribute [local irreducible] t_fd in
set_option maxRecDepth 100000 in
theorem kFd : Known Tryz.prog GL 19 tFd := by
  refine Known_any (ι := Mc × Ky) (T := fun x => t_fd x.1 x.2) (mcZ, ky0) (fun x => k_fd x.1 x.2) fun args regs R h => ?_
  unfold tFd at h
  split at h
  case h_2 => exact h.elim
  rename_i _ a _ b _ c
  obtain ⟨M, rfl, hM, ⟨h1, hg⟩, h⟩ := onM_elim h
  rw [h1]
  exact ⟨(M, a, b, c), (Box.of_eq (fd_tree M a b c R) (fd_in hg h)).out⟩
end Go.Proofs.YtdhhjgplnmpjcaaGreatDoor.mac
namespace Go.Proofs.YtdhhjgplnmpjcaaGreatDoor.mac
open Go Go.Nx Go.Proofs.YtdhhjgplnmpjcaaGreatDoor.pk Go.Proofs.YtdhhjgplnmpjcaaGreatDoor.ac Go.Proofs.YtdhhjgplnmpjcaaGreatDoor.sto Go.Proofs.YtdhhjgplnmpjcaaGreatDoor.pge Go.Proofs.YtdhhjgplnmpjcaaGreatDoor.dec
noncomputable def t_snew : Con := fun args regs => nfun Tryz.prog GL (fun _ => Option.none) [] Tryz.f32 args regs
theorem k_snew : KnownF Tryz.prog GL 32 t_snew := known_inlF Tryz.func32 rfl (by kernel_rfl) mixed con_none (by kernel_rfl)
noncomputable def c_new : FuncId → Option Con := conOf [(32, t_snew)]
theorem kc_new : ∀ f T, c_new f = some T → Known Tryz.prog GL f T := (Knowns.cons k_snew.known .nil).get
noncomputable def t_new0 : Con := fun args regs => nfun Tryz.prog GL c_new [] Tryz.f11 args regs
theorem k_new0 : KnownF Tryz.prog GL 11 t_new0 := known_inlF Tryz.func11 rfl (by kernel_rfl) mixed kc_new (by kernel_rfl)
def nilsM : List (Nat × Nat × Nat × NC) := [0, 1, 2, 3, 4, 5, 6, 7, 8].flatMap fun g => [(0, 9 * g + 5, 0, .lr K3 []), (0, 9 * (g + 1), 1, .l .u8 [])]
def canonL (F : Nat) (cs : List (Nat × Nat × Reg)) (o : Out) : Tr Out :=
  match o.rg with
  | [] => .ret o
  | _ => canonO F cs none o
def canonV (F : Nat) (cs : List (Nat × Nat × Reg)) (T : Con) : Con := fun args regs => (T args regs).bind (canonL F cs)
theorem KnownF_canonV {P : Program} {gl : List Nat} {f : FuncId} {T : Con} (h : KnownF P gl f T) (F : Nat) (cs : List (Nat × Nat × Reg)) : KnownF P gl f (canonV F cs T) := by
  refine h.weak fun args regs R hR => ?_
  unfold canonV at hR
  rw [Tr.run_bind] at hR
  refine Tr.run_mono _ (fun o ho => ?_) hR
  unfold canonL at ho
  split at ho
  · exact ⟨_, WeakF.refl _, ho⟩
  · exact canonO_ok ho
noncomputable def t_newC : Con := softT [] [] [] nilsM 4 (canonV 3 [(1, 2, ordReg [])] t_new0)
theorem k_newC : Known Tryz.prog GL 11 t_newC := (KnownF_canonV k_new0 3 [(1, 2, ordReg [])]).soft [] [] [] nilsM 4
def mcN (n : Int) : Mc := ⟨fun _ => mvZ, ixZ, ⟨n, (0, 0, 0), false, []⟩⟩
noncomputable def oNo : Out := ⟨.tu [.c .pn, .c (.e eRng)], []⟩
noncomputable def oNw (n : Int) : Out := ⟨.tu [.c (.p 0 0 0), .c .en], (inM (mcN n)).map some⟩
theorem nw_tree (n : Int) (R : Out → Prop) : (t_newC [.c (.i .i64 n)] []).run R = sel (decide (n < 1)) (R oNo) (sel (decide (n > 800)) (R oNo) (R (oNw n))) := by kernel_rfl
noncomputable def tNewM : Con := fun args regs => match args, regs with
  | [.c (.i _ n)], [] => .must (args = [.c (.i .i64 n)]) (.br (decide (n < 1)) (.ret oNo) (.br (decide (n > 800)) (.ret oNo) (.ret (oNw n))))
  | _, _ => .fail
attribute [local irreducible] t_newC in
set_option maxRecDepth 100000 in
theorem kNewM : Known Tryz.prog GL 11 tNewM := by
  refine k_newC.less fun args regs R h => ?_
  unfold tNewM at h
  split at h
  case h_2 => exact h.elim
  rename_i n
  rw [h.1]
  exact (Box.of_eq (nw_tree n R) h.2).out
theorem mcN_good {n : Int} (h1 : 1 ≤ n) (h8 : n ≤ 800) : (mcN n).good := by
  refine ⟨fun k hk => rfl, List.nodup_nil, h1, h8, ?_, ?_, fun k => fits_z, fun k => Nat.zero_le _⟩
  · show ((0 : Nat) : Int) ≤ n
    omega
  · intro p hp
    cases hp
end Go.Proofs.YtdhhjgplnmpjcaaGreatDoor.mac
namespace Go.Proofs.YtdhhjgplnmpjcaaGreatDoor.mac
open Go Go.Nx Go.Proofs.YtdhhjgplnmpjcaaGreatDoor.pk Go.Proofs.YtdhhjgplnmpjcaaGreatDoor.ac Go.Proofs.YtdhhjgplnmpjcaaGreatDoor.sto Go.Proofs.YtdhhjgplnmpjcaaGreatDoor.pge Go.Proofs.YtdhhjgplnmpjcaaGreatDoor.dec
noncomputable def c_pgs0 : FuncId → Option Con := conOf [(51, tKe)]
theorem kc_pgs0 : ∀ f T, c_pgs0 f = some T → Known Tryz.prog GL f T := (Knowns.cons kKe.known .nil).get
noncomputable def t_pgs0 : Con := fun args regs => nfun Tryz.prog GL c_pgs0 [] Tryz.f17 args regs
theorem k_pgs0 : Known Tryz.prog GL 17 t_pgs0 := known_inl Tryz.func17 rfl (by kernel_rfl) mixed kc_pgs0 (by kernel_rfl)
noncomputable def oPgs (M : Mc) : Out := ⟨.v (.c (.lr K3 (kyRows (M.st.L.map kyP)))), (inM M).map some⟩
noncomputable def t_pgsC : Con := softT [] [4] [] [] 4 t_pgs0
theorem k_pgsC : Known Tryz.prog GL 17 t_pgsC := k_pgs0.soft [] [4] [] [] 4
theorem pgs_tree (M : Mc) (R : Out → Prop) : (t_pgsC [.c (.p 0 0 0)] (inM M)).run R = ((inP M.st = inP (mpP M.st) ∧ (mpP M.st).ok) ∧ ((mpP M.st).L.length = (kyRows ((mpP M.st).L.map kyP)).length ∧ R (oPgs { M with st := mpP M.st }))) := by kernel_rfl
noncomputable def tPgs : Con := fun args regs => match args with
  | [.c (.p 0 0 0)] => onM regs fun M => .ret (oPgs M)
  | _ => .fail
attribute [local irreducible] t_pgsC in
set_option maxRecDepth 100000 in
theorem kPgs : Known Tryz.prog GL 17 tPgs := by
  refine k_pgsC.less fun args regs R h => ?_
  unfold tPgs at h
  split at h
  case h_2 => exact h.elim
  obtain ⟨M, rfl, hM, h⟩ := onM_elim h
  have e : ({ M with st := mpP M.st } : Mc) = M := by rw [mpP_eq]
  refine (Box.of_eq (pgs_tree M R) ⟨⟨by rw [mpP_eq], by rw [mpP_eq]; exact hM.2⟩, by rw [kyRows_length, List.length_map], ?_⟩).out
  rw [e]
  exact h
noncomputable def c_f14 : FuncId → Option Con := conOf [(11, tNewM), (17, tPgs), (12, tPk), (24, t_is)]
theorem kc_f14 : ∀ f T, c_f14 f = some T → Known Tryz.prog GL f T := (Knowns.cons kNewM (.cons kPgs (.cons kPk (.cons k_is .nil)))).get
noncomputable def t_f14 : Con := fun args regs => nfun Tryz.prog GL c_f14 [] Tryz.f8 args regs
theorem k_f14 : Known Tryz.prog GL 8 t_f14 := known_inl Tryz.func8 rfl (by kernel_rfl) mixed kc_f14 (by kernel_rfl)
noncomputable def f14T (R : Out → Prop) : Prop := ([NV.c (.i .i64 5)] = [NV.c (.i .i64 5)]) ∧ ((inM (mcN 5) = inM (bk (mcN 5)) ∧ (bk (mcN 5)).ok) ∧ ((inM (bk (mcN 5)) = inM (bk (bk (mcN 5))) ∧ (bk (bk (mcN 5))).ok) ∧ R ⟨.v (.c (.b true)), []⟩))
theorem f14_tree (R : Out → Prop) : (t_f14 [] []).run R = f14T R := by kernel_rfl
noncomputable def tF14 : Con := fun args regs => match args, regs with
  | [], [] => .ret ⟨.v (.c (.b true)), []⟩
  | _, _ => .fail
attribute [local irreducible] t_f14 in
set_option maxRecDepth 100000 in
theorem kF14 : Known Tryz.prog GL 8 tF14 := by
  refine k_f14.less fun args regs R h => ?_
  unfold tF14 at h
  split at h
  case h_2 => exact h.elim
  have hg := mcN_good (n := 5) (by omega) (by omega)
  refine (Box.of_eq (f14_tree R) ?_).out
  unfold f14T
  rw [hg.bk, hg.bk]
  exact ⟨rfl, ⟨rfl, hg.ok⟩, ⟨rfl, hg.ok⟩, h⟩
end Go.Proofs.YtdhhjgplnmpjcaaGreatDoor.mac
namespace Go.Proofs.YtdhhjgplnmpjcaaGreatDoor.bm
open Go.Proofs.YtdhhjgplnmpjcaaGreatDoor.sto (sT sF)
open Go Go.Nx Go.Proofs.YtdhhjgplnmpjcaaGreatDoor.pk Go.Proofs.YtdhhjgplnmpjcaaGreatDoor.ln Go.Proofs.YtdhhjgplnmpjcaaGreatDoor.hd Go.Proofs.YtdhhjgplnmpjcaaGreatDoor.lb Go.Proofs.YtdhhjgplnmpjcaaGreatDoor.sv
theorem byT {x : Int} (h : 0 ≤ x ∧ x < 256) : ∃ m, m < 256 ∧ x = Int.ofNat m := ⟨x.toNat, by omega, by show x = ((x.toNat : Nat) : Int); omega⟩
noncomputable def c_rodd : FuncId → Option Con := conOf [(138, ones.tOnes)]
theorem kc_rodd : ∀ f T, c_rodd f = some T → Known Tryz.prog GL f T := (Knowns.cons (known_gl ones.kOnes) .nil).get
noncomputable def t_rodd : Con := fun args regs => nfun Tryz.prog GL c_rodd [] Tryz.f139 args regs
theorem k_rodd : Known Tryz.prog GL 139 t_rodd := known_inl Tryz.func139 rfl (by kernel_rfl) mixed kc_rodd (by kernel_rfl)
theorem rodd_tree (b : Int) (R : Out → Prop) : (t_rodd [.c (.i .u8 b)] []).run R = ((0 ≤ IntKind.i64.wrap b ∧ IntKind.i64.wrap b < 9223372036854775808) ∧ R (oB ((ones.bl (IntKind.i64.wrap b).toNat : Int).tmod 2 == 1))) := by kernel_rfl
theorem rodd_all : ∀ m < 256, ones.par m 8 = odd (Int.ofNat m) := by decide +kernel
noncomputable def tROdd : Con := fun args regs => match args, regs with
  | [.c (.i .u8 b)], [] => .must (0 ≤ b ∧ b < 256) (.ret (oB (odd b)))
  | _, _ => .fail
theorem rodd_in {b : Int} (h : 0 ≤ b ∧ b < 256) : ((ones.bl (IntKind.i64.wrap b).toNat : Int).tmod 2 == 1) = odd b := by
  obtain ⟨m, hm, rfl⟩ := byT h
  have hw : IntKind.i64.wrap (Int.ofNat m) = Int.ofNat m := by rw [IntKind.wrap_i64]; show ((m : Int) + _) % _ - _ = (m : Int); omega
  rw [hw, show (Int.ofNat m).toNat = m from rfl, ← rodd_all m hm]
  have hp := ones.bl_par 8 m (by omega)
  rw [Int.tmod_eq_emod_of_nonneg (by omega)]
  cases h2 : ones.par m 8 with
  | true =>
    rw [h2] at hp
    have hp : ones.bl m % 2 = 1 := hp
    rw [beq_iff_eq]
    omega
  | false =>
    rw [h2] at hp
    have hp : ones.bl m % 2 = 0 := hp
    rw [beq_eq_false_iff_ne]
    omega
set_option maxRecDepth 100000 in
theorem kROdd : Known Tryz.prog GL 139 tROdd := by
  refine k_rodd.less fun args regs R h => Box.out ?_
  unfold tROdd at h
  split at h
  case h_2 => exact h.elim
  rename_i b
  have h1 := h.1
  have h2 : R (oB (odd b)) := h.2
  clear h
  refine Box.of_eq (rodd_tree b R) ⟨?_, by rw [rodd_in h1]; exact h2⟩
  rw [IntKind.wrap_i64]
  omega
noncomputable def c_rmk : FuncId → Option Con := conOf [(139, tROdd)]
theorem kc_rmk : ∀ f T, c_rmk f = some T → Known Tryz.prog GL f T := (Knowns.cons kROdd .nil).get
noncomputable def t_rmk : Con := fun args regs => nfun Tryz.prog GL c_rmk [] Tryz.f97 args regs
theorem k_rmk : Known Tryz.prog GL 97 t_rmk := known_inl Tryz.func97 rfl (by kernel_rfl) mixed kc_rmk (by kernel_rfl)
theorem rmk_tree (c : Int) (R : Out → Prop) : (t_rmk [.c (.i .u8 c)] []).run R = ((0 ≤ aU c 127 ∧ aU c 127 < 256) ∧ sel (odd (aU c 127)) (R ⟨.v (.c (.i .u8 (aU c 127))), []⟩) (R ⟨.v (.c (.i .u8 (oU (aU c 127) 128))), []⟩)) := by kernel_rfl
set_option maxRecDepth 100000 in
theorem kRMkO : Known Tryz.prog GL 97 tMkO := by
  refine k_rmk.less fun args regs R h => Box.out ?_
  unfold tMkO at h
  split at h
  case h_2 => exact h.elim
  rename_i c
  have h2 : R ⟨.v (.c (.i .u8 (mkO c))), []⟩ := h
  clear h
  refine Box.of_eq (rmk_tree c R) ⟨aU_in _ _, ?_⟩
  unfold mkO at h2
  cases hc : odd (aU c 127) with
  | true => rw [hc] at h2; exact selT rfl h2
  | false => rw [hc] at h2; exact selF rfl h2
noncomputable abbrev f_odd := Tryz.f39
noncomputable def c_odd : FuncId → Option Con := conOf [(97, tMkO)]
theorem kc_odd : ∀ f T, c_odd f = some T → Known Tryz.prog GL f T := (Knowns.cons kRMkO .nil).get
noncomputable def X_odd : Cx := { P := Tryz.prog, con := c_odd, glob := GL, m := 0, loops := [] }
def arU (xs : List Int) : Reg := ⟨1, 5, .ints .u8 xs⟩
noncomputable def ouC : Option (List Int × Nat) → NC
  | none => .sn
  | some x => .h 0 0 x.2
noncomputable def ouR : Option (List Int × Nat) → List (Option Reg)
  | none => []
  | some x => [some (arU x.1)]
noncomputable def sOd (bs : List Int) (n i : Int) (o : Option (List Int × Nat)) : St := { fr := frame 27 [(0, .v (.c (.l .u8 bs))), (1, .v (.c (.i .i64 n))), (4, .v (.c .sn)), (5, .v (.c (ouC o))), (6, .v (.c (.i .i64 i)))], rg := ouR o }
noncomputable def dOd (o : Option (List Int × Nat)) : St := { fr := frame 27 [(5, .v (.c (ouC o)))], rg := ouR o }
noncomputable def rOd (s : St) : Tr RO := roundT X_odd 0 [0, 1, 4, 5, 6] [5] (bodyLoop f_odd 0) s
def ixU (i : Int) (l : Nat) (A : Prop) : Prop := sel (decide (0 ≤ i)) (sel (decide (i < (l : Int))) (sel (decide (i.toNat < l)) A False) False) False
def apU (m : Nat) (A : Prop) : Prop := sel (decide (0 + m ≤ m)) (sel (decide ((m + 1) * bytesT Tryz.prog 5 ≤ 140737488355328)) (sel (decide (m + 1 ≤ 9223372036854775807)) A False) False) False
noncomputable def nxOd (bs : List Int) (n i : Int) (R : RO → Prop) (xs : List Int) (m : Nat) : Prop := R (.next (sOd bs n (IntKind.i64.wrap (i + 1)) (some (xs, m))))
theorem od_0 (bs : List Int) (n i : Int) (R : RO → Prop) : (rOd (sOd bs n i none)).run R =
    sel (decide (i < n)) (sel (decide (i < (bs.length : Int))) (ixU i bs.length (nxOd bs n i R [mkO (bs.getD i.toNat 0)] 1)) (nxOd bs n i R [mkO 32] 1)) (R (.done .normal (dOd none))) := by kernel_rfl
theorem od_1 (bs : List Int) (n i : Int) (xs : List Int) (R : RO → Prop) : (rOd (sOd bs n i (some (xs, xs.length)))).run R =
    sel (decide (i < n)) (sel (decide (i < (bs.length : Int))) (ixU i bs.length (apU xs.length (nxOd bs n i R (List.take xs.length xs ++ [mkO (bs.getD i.toNat 0)]) (xs.length + 1)))) (apU xs.length (nxOd bs n i R (List.take xs.length xs ++ [mkO 32]) (xs.length + 1)))) (R (.done .normal (dOd (some (xs, xs.length))))) := by kernel_rfl
noncomputable def odV (bs : List Int) (k : Nat) : List Int := (List.range k).map fun i => mkO (bs.getD i 32)
theorem odV_len (bs : List Int) (k : Nat) : (odV bs k).length = k := by unfold odV; rw [List.length_map, List.length_range]
theorem odV_succ (bs : List Int) (k : Nat) : odV bs (k + 1) = odV bs k ++ [mkO (bs.getD k 32)] := by unfold odV; rw [List.range_succ, List.map_append]; rfl
noncomputable def oOd (bs : List Int) : Nat → Option (List Int × Nat)
  | 0 => none
  | k + 1 => some (odV bs (k + 1), k + 1)
theorem bytesU : bytesT Tryz.prog 5 = 1 := by kernel_rfl
theorem apU_in {m : Nat} {A : Prop} (hm : m ≤ 1000) (h : A) : apU m A := by
  unfold apU
  rw [bytesU]
  exact sT (decide_eq_true (by omega)) (sT (decide_eq_true (by omega)) (sT (decide_eq_true (by omega)) h))
theorem ixU_in {i : Int} {l : Nat} {A : Prop} (h : 0 ≤ i ∧ i < (l : Int)) (hA : A) : ixU i l A := sT (decide_eq_true h.1) (sT (decide_eq_true h.2) (sT (decide_eq_true (by omega)) hA))
def rdOd (s : St) : Option (List Int × Int) := match s.fr[(0 : Nat)]?, s.fr[(1 : Nat)]? with
  | some (.v (.c (.l _ bs))), some (.v (.c (.i _ n))) => some (bs, n)
  | _, _ => none
noncomputable def lOd (s : St) : Tr (NExit × St) := match rdOd s with
  | some x => .must (s = sOd x.1 x.2 0 none ∧ 0 < x.2 ∧ x.2 ≤ 100) (.ret (.normal, dOd (some (odV x.1 x.2.toNat, x.2.toNat))))
  | none => .fail
structure AOd where
  bs : List Int
  n : Int
  k : Nat
noncomputable def hOd (a : AOd) : St := sOd a.bs a.n (a.k : Int) (oOd a.bs a.k)
def preOd (a : AOd) (R : NExit × St → Prop) : Prop := ((a.k : Int) ≤ a.n ∧ 0 < a.n ∧ a.n ≤ 100) ∧ R (.normal, dOd (some (odV a.bs a.n.toNat, a.n.toNat)))
def nxtOd (a : AOd) (R : NExit × St → Prop) (o : RO) : Prop := match o with
  | .next s => ∃ y, s = hOd y ∧ (y.n - y.k).toNat < (a.n - a.k).toNat ∧ preOd y R
  | .done e s => R (e, s)
theorem getD_in {bs : List Int} {k : Nat} (h : k < bs.length) : bs.getD k 32 = bs.getD k 0 := by
  rw [List.getD_eq_getElem?_getD, List.getD_eq_getElem?_getD, List.getElem?_eq_getElem h]; rfl
theorem getD_out {bs : List Int} {k : Nat} (h : ¬ k < bs.length) : bs.getD k 32 = 32 := by
  rw [List.getD_eq_getElem?_getD, List.getElem?_eq_none (by omega)]; rfl
theorem od_in (a : AOd) (R : NExit × St → Prop) (h : preOd a R) : Box ((rOd (hOd a)).run (nxtOd a R)) := by
  obtain ⟨bs, n, k⟩ := a
  obtain ⟨⟨h1, h2, h3⟩, hR⟩ := h
  simp only at h1 h2 h3 hR
  have hw : IntKind.i64.wrap ((k : Int) + 1) = ((k + 1 : Nat) : Int) := by rw [IntKind.wrap_i64]; omega
  have nx : ∀ xs m, (k : Int) < n → xs = odV bs (k + 1) → m = k + 1 → nxOd bs n (k : Int) (nxtOd ⟨bs, n, k⟩ R) xs m := by
    rintro xs m hk rfl rfl
    unfold nxOd
    rw [hw]
    exact ⟨⟨bs, n, k + 1⟩, rfl, by simp only; omega, ⟨by simp only; omega, h2, h3⟩, hR⟩
  match k, h1, hw, nx with
  | 0, h1, hw, nx =>
    have e : odV bs 1 = [mkO (bs.getD 0 32)] := rfl
    refine Box.of_eq (od_0 bs n 0 _) (sT (decide_eq_true h2) ?_)
    by_cases hb : 0 < bs.length
    · exact sT (decide_eq_true (by omega)) (ixU_in ⟨by omega, by omega⟩ (nx _ _ h2 (by rw [e, getD_in hb]; rfl) rfl))
    · exact sF (decide_eq_false (by omega)) (nx _ _ h2 (by rw [e, getD_out hb]) rfl)
  | k + 1, h1, hw, nx =>
    have hl := odV_len bs (k + 1)
    have e := odV_succ bs (k + 1)
    have ha : hOd ⟨bs, n, k + 1⟩ = sOd bs n ((k + 1 : Nat) : Int) (some (odV bs (k + 1), (odV bs (k + 1)).length)) := by
      show sOd bs n _ (some (odV bs (k + 1), k + 1)) = _
      rw [hl]
    rw [ha]
    refine Box.of_eq (od_1 bs n _ _ _) ?_
    by_cases hk : ((k + 1 : Nat) : Int) < n
    · refine sT (decide_eq_true hk) ?_
      rw [List.take_length, hl]
      by_cases hb : k + 1 < bs.length
      · exact sT (decide_eq_true (by omega)) (ixU_in ⟨by omega, by omega⟩ (apU_in (by omega) (nx _ _ hk (by rw [e, getD_in hb]; rfl) rfl)))
      · exact sF (decide_eq_false (by omega)) (apU_in (by omega) (nx _ _ hk (by rw [e, getD_out hb]) rfl))
    · refine sF (decide_eq_false hk) ?_
      have hn : n.toNat = k + 1 := by omega
      rw [hn] at hR
      rw [hl]
      exact hR
set_option maxRecDepth 100000 in
theorem loop_od : LOk Tryz.prog GL 0 0 (bodyLoop f_odd 0) lOd := by
  refine loop_ok (X := X_odd) kc_odd mixed (LAll.none (by kernel_rfl)) [0, 1, 4, 5, 6] [5] hOd (fun a => (a.n - a.k).toNat) preOd ?_ ?_
  · intro s R h
    unfold lOd at h
    split at h
    case h_2 => exact h.elim
    rename_i x hx
    obtain ⟨⟨hs, h1, h2⟩, hR⟩ := h
    exact ⟨⟨x.1, x.2, 0⟩, hs, ⟨by simp only; omega, h1, h2⟩, hR⟩
  · intro a R h
    exact Tr.run_mono _ (fun o ho => ho) (od_in a R h).out
noncomputable def t_odd0 : Con := fun args regs => if regs.length = 0 then nfun Tryz.prog GL c_odd [(0, [0, 1, 4, 5, 6], lOd)] f_odd args regs else .fail
theorem k_odd0 : Known Tryz.prog GL 39 t_odd0 := known_loops 0 Tryz.func39 rfl (by kernel_rfl) mixed kc_odd (LAll.one (id := 0) (body := bodyLoop f_odd 0) (by kernel_rfl) rfl loop_od)
noncomputable def t_oddC : Con := softT [] [0] [] [] 0 t_odd0
theorem k_oddC : Known Tryz.prog GL 39 t_oddC := k_odd0.soft [] [0] [] [] 0
noncomputable def oLu (xs : List Int) : Out := ⟨.v (.c (.l .u8 xs)), []⟩
theorem odd_tree (bs : List Int) (n : Int) (R : Out → Prop) : (t_oddC [.c (.l .u8 bs), .c (.i .i64 n)] []).run R = ((sOd bs n 0 none = sOd bs n 0 none ∧ 0 < n ∧ n ≤ 100) ∧ (n.toNat = (odV bs n.toNat).length ∧ R (oLu (odV bs n.toNat)))) := by kernel_rfl
noncomputable def tOddB : Con := fun args regs => match args, regs with
  | [.c (.l _ bs), .c (.i _ n)], [] => .must (args = [.c (.l .u8 bs), .c (.i .i64 n)] ∧ 0 < n ∧ n ≤ 100) (.ret (oLu (odV bs n.toNat)))
  | _, _ => .fail
attribute [local irreducible] t_oddC in
set_option maxRecDepth 100000 in
theorem kOddB : Known Tryz.prog GL 39 tOddB := by
  refine k_oddC.less fun args regs R h => ?_
  unfold tOddB at h
  split at h
  case h_2 => exact h.elim
  rename_i _ bs _ n
  obtain ⟨⟨h1, h2, h3⟩, h⟩ := h
  rw [h1]
  exact (Box.of_eq (odd_tree bs n R) ⟨⟨rfl, h2, h3⟩, (odV_len _ _).symm, h⟩).out
end Go.Proofs.YtdhhjgplnmpjcaaGreatDoor.bm
namespace Go.Proofs.YtdhhjgplnmpjcaaGreatDoor.bm
open Go.Proofs.YtdhhjgplnmpjcaaGreatDoor.sto (sT sF)
open Go.Proofs.YtdhhjgplnmpjcaaGreatDoor.pge (Hx)
open Go Go.Nx Go.Proofs.YtdhhjgplnmpjcaaGreatDoor.pk Go.Proofs.YtdhhjgplnmpjcaaGreatDoor.ln Go.Proofs.YtdhhjgplnmpjcaaGreatDoor.hd Go.Proofs.YtdhhjgplnmpjcaaGreatDoor.lb Go.Proofs.YtdhhjgplnmpjcaaGreatDoor.sv
noncomputable def c_pl0 : FuncId → Option Con := conOf [(9, num.tNumV)]
theorem kc_pl0 : ∀ f T, c_pl0 f = some T → Known Tryz.prog GL f T := (Knowns.cons (known_gl num.kNumV) .nil).get
noncomputable def t_pl0 : Con := fun args regs => nfun Tryz.prog GL c_pl0 [] Tryz.f21 args regs
theorem k_pl0 : Known Tryz.prog GL 21 t_pl0 := known_inl Tryz.func21 rfl (by kernel_rfl) mixed kc_pl0 (by kernel_rfl)
noncomputable def t_rright : Con := fun args regs => nfun Tryz.prog GL (fun _ => Option.none) [] Tryz.f94 args regs
theorem k_rright : Known Tryz.prog GL 94 t_rright := known_inl Tryz.func94 rfl (by kernel_rfl) mixed con_none (by kernel_rfl)
noncomputable def c_rplaced : FuncId → Option Con := conOf [(96, tRPut)]
theorem kc_rplaced : ∀ f T, c_rplaced f = some T → Known Tryz.prog GL f T := (Knowns.cons kg_rput .nil).get
noncomputable def t_rplaced : Con := fun args regs => nfun Tryz.prog GL c_rplaced [] Tryz.f95 args regs
theorem k_rplaced : Known Tryz.prog GL 95 t_rplaced := known_inl Tryz.func95 rfl (by kernel_rfl) mixed kc_rplaced (by kernel_rfl)
noncomputable def c_rpkd : FuncId → Option Con := conOf [(96, tRPut)]
theorem kc_rpkd : ∀ f T, c_rpkd f = some T → Known Tryz.prog GL f T := (Knowns.cons kg_rput .nil).get
noncomputable def t_rpkd : Con := fun args regs => nfun Tryz.prog GL c_rpkd [] Tryz.f40 args regs
theorem k_rpkd : Known Tryz.prog GL 40 t_rpkd := known_inl Tryz.func40 rfl (by kernel_rfl) mixed kc_rpkd (by kernel_rfl)
noncomputable abbrev f_hb := Tryz.f38
noncomputable def c_hb : FuncId → Option Con := conOf [(94, t_rright), (95, t_rplaced), (96, tRPut), (40, t_rpkd)]
theorem kc_hb : ∀ f T, c_hb f = some T → Known Tryz.prog GL f T := (Knowns.cons k_rright (.cons k_rplaced (.cons kg_rput (.cons k_rpkd .nil)))).get
noncomputable def X_hb : Cx := { P := Tryz.prog, con := c_hb, glob := GL, m := 0, loops := [] }
def alB (h : Hx) : Nat → Bool
  | 0 => h.c0
  | 1 => h.c1
  | 2 => h.c2
  | 3 => h.c3
  | 4 => h.c4
  | 5 => h.c5
  | 6 => h.c6
  | 7 => h.c7
  | 8 => h.c8
  | 9 => h.c9
  | 10 => h.c10
  | _ => false
def pw (k : Nat) : Int := Int.ofNat (2 ^ k)
noncomputable def alV (h : Hx) : Nat → Int
  | 0 => 0
  | k + 1 => bif alB h k then bits .or .i64 (alV h k) (pw k) else alV h k
noncomputable def hxR (h : Hx) : Reg := ⟨15, 48, .cells h.nc⟩
noncomputable def sHB (xs : List Int) (h : Hx) (all : Int) (i : Int) : St := { fr := frame 55 [(1, .v (.c (.l .u8 xs))), (2, .v (.c (.p 0 0 0))), (4, .v (.c .sn)), (5, .v (.c (.i .i64 0))), (6, .v (.c (.i .i64 all))), (7, .v (.c (.i .i64 i)))], rg := [some (hxR h)] }
noncomputable def dHB (xs : List Int) (h : Hx) (all : Int) : St := { fr := frame 55 [(1, .v (.c (.l .u8 xs))), (2, .v (.c (.p 0 0 0))), (4, .v (.c .sn)), (5, .v (.c (.i .i64 0))), (6, .v (.c (.i .i64 all)))], rg := [some (hxR h)] }
noncomputable def rHB (s : St) : Tr RO := roundT X_hb 0 [1, 2, 4, 5, 6, 7] [1, 2, 4, 5, 6] (bodyLoop f_hb 0) s
noncomputable def nHB (xs : List Int) (h : Hx) (all : Int) (k : Nat) (R : RO → Prop) : Prop := sel (alB h k) (R (.next (sHB xs h (bits .or .i64 all (pw k)) (Int.ofNat (k + 1))))) (R (.next (sHB xs h all (Int.ofNat (k + 1)))))
theorem hb_0 (xs : List Int) (h : Hx) (all : Int) (R : RO → Prop) : (rHB (sHB xs h all 0)).run R = nHB xs h all 0 R := by kernel_rfl
theorem hb_1 (xs : List Int) (h : Hx) (all : Int) (R : RO → Prop) : (rHB (sHB xs h all 1)).run R = nHB xs h all 1 R := by kernel_rfl
theorem hb_2 (xs : List Int) (h : Hx) (all : Int) (R : RO → Prop) : (rHB (sHB xs h all 2)).run R = nHB xs h all 2 R := by kernel_rfl
theorem hb_3 (xs : List Int) (h : Hx) (all : Int) (R : RO → Prop) : (rHB (sHB xs h all 3)).run R = nHB xs h all 3 R := by kernel_rfl
theorem hb_4 (xs : List Int) (h : Hx) (all : Int) (R : RO → Prop) : (rHB (sHB xs h all 4)).run R = nHB xs h all 4 R := by kernel_rfl
theorem hb_5 (xs : List Int) (h : Hx) (all : Int) (R : RO → Prop) : (rHB (sHB xs h all 5)).run R = nHB xs h all 5 R := by kernel_rfl
theorem hb_6 (xs : List Int) (h : Hx) (all : Int) (R : RO → Prop) : (rHB (sHB xs h all 6)).run R = nHB xs h all 6 R := by kernel_rfl
theorem hb_7 (xs : List Int) (h : Hx) (all : Int) (R : RO → Prop) : (rHB (sHB xs h all 7)).run R = nHB xs h all 7 R := by kernel_rfl
theorem hb_8 (xs : List Int) (h : Hx) (all : Int) (R : RO → Prop) : (rHB (sHB xs h all 8)).run R = nHB xs h all 8 R := by kernel_rfl
theorem hb_9 (xs : List Int) (h : Hx) (all : Int) (R : RO → Prop) : (rHB (sHB xs h all 9)).run R = nHB xs h all 9 R := by kernel_rfl
theorem hb_10 (xs : List Int) (h : Hx) (all : Int) (R : RO → Prop) : (rHB (sHB xs h all 10)).run R = nHB xs h all 10 R := by kernel_rfl
theorem hb_11 (xs : List Int) (h : Hx) (all : Int) (R : RO → Prop) : (rHB (sHB xs h all 11)).run R = R (.done .normal (dHB xs h all)) := by kernel_rfl
theorem hb_k (xs : List Int) (h : Hx) (all : Int) (R : RO → Prop) : ∀ k < 11, (rHB (sHB xs h all (Int.ofNat k))).run R = nHB xs h all k R
  | 0, _ => hb_0 xs h all R
  | 1, _ => hb_1 xs h all R
  | 2, _ => hb_2 xs h all R
  | 3, _ => hb_3 xs h all R
  | 4, _ => hb_4 xs h all R
  | 5, _ => hb_5 xs h all R
  | 6, _ => hb_6 xs h all R
  | 7, _ => hb_7 xs h all R
  | 8, _ => hb_8 xs h all R
  | 9, _ => hb_9 xs h all R
  | 10, _ => hb_10 xs h all R
  | k + 11, hk => absurd hk (by omega)
def rdHB (s : St) : Option (List Int × Hx) := match s.fr[(1 : Nat)]?, s.rg[(0 : Nat)]? with
  | some (.v (.c (.l _ xs))), some (some { body := .cells [.i _ mg, .i _ pn, .i _ sb, .b c0, .b c1, .b c2, .b c3, .b c4, .b c5, .b c6, .b c7, .b c8, .b c9, .b c10, .i _ op], .. }) => some (xs, ⟨mg, pn, sb, c0, c1, c2, c3, c4, c5, c6, c7, c8, c9, c10, op⟩)
  | _, _ => none
noncomputable def lHB (s : St) : Tr (NExit × St) := match rdHB s with
  | some x => .must (s = sHB x.1 x.2 0 0) (.ret (.normal, dHB x.1 x.2 (alV x.2 11)))
  | none => .fail
structure AHB where
  xs : List Int
  h : Hx
  k : Nat
noncomputable def hHB (a : AHB) : St := sHB a.xs a.h (alV a.h a.k) (Int.ofNat a.k)
def preHB (a : AHB) (R : NExit × St → Prop) : Prop := a.k ≤ 11 ∧ R (.normal, dHB a.xs a.h (alV a.h 11))
def nxtHB (a : AHB) (R : NExit × St → Prop) (o : RO) : Prop := match o with
  | .next s => ∃ y, s = hHB y ∧ 11 - y.k < 11 - a.k ∧ preHB y R
  | .done e s => R (e, s)
theorem hb_in (a : AHB) (R : NExit × St → Prop) (h : preHB a R) : Box ((rHB (hHB a)).run (nxtHB a R)) := by
  obtain ⟨xs, h', k⟩ := a
  obtain ⟨h1, hR⟩ := h
  simp only at h1 hR
  by_cases hk : k < 11
  · refine Box.of_eq (hb_k xs h' _ _ k hk) ?_
    unfold nHB
    have e : alV h' (k + 1) = bif alB h' k then bits .or .i64 (alV h' k) (pw k) else alV h' k := rfl
    have nx : ∀ all, all = alV h' (k + 1) → nxtHB ⟨xs, h', k⟩ R (.next (sHB xs h' all (Int.ofNat (k + 1)))) := by
      rintro _ rfl
      exact ⟨⟨xs, h', k + 1⟩, rfl, by simp only; omega, by simp only [preHB]; exact ⟨by omega, hR⟩⟩
    cases hb : alB h' k with
    | true => exact sT rfl (nx _ (by rw [e, hb]; rfl))
    | false => exact sF rfl (nx _ (by rw [e, hb]; rfl))
  · have hk : k = 11 := by omega
    subst hk
    exact Box.of_eq (hb_11 xs h' _ _) hR
set_option maxRecDepth 100000 in
theorem loop_hb : LOk Tryz.prog GL 0 0 (bodyLoop f_hb 0) lHB := by
  refine loop_ok (X := X_hb) kc_hb mixed (LAll.none (by kernel_rfl)) [1, 2, 4, 5, 6, 7] [1, 2, 4, 5, 6] hHB (fun a => 11 - a.k) preHB ?_ ?_
  · intro s R h
    unfold lHB at h
    split at h
    case h_2 => exact h.elim
    rename_i x hx
    obtain ⟨hs, hR⟩ := h
    exact ⟨⟨x.1, x.2, 0⟩, hs, by simp only; omega, hR⟩
  · intro a R h
    exact Tr.run_mono _ (fun o ho => ho) (hb_in a R h).out
noncomputable def t_hb0 : Con := fun args regs => if regs.length = 0 then nfun Tryz.prog GL c_hb [(0, [1, 2, 4, 5, 6, 7], lHB)] f_hb args regs else .fail
theorem k_hb0 : Known Tryz.prog GL 38 t_hb0 := known_loops 0 Tryz.func38 rfl (by kernel_rfl) mixed kc_hb (LAll.one (id := 0) (body := bodyLoop f_hb 0) (by kernel_rfl) rfl loop_hb)
def e16 (x : Int) : Prop := 0 ≤ x ∧ x < 16
noncomputable def pl6 (pn sb b : Int) : List Int := [put (bits .and .i64 pn 15), put (shrv .i64 pn 4), put (bits .and .i64 sb 15), put (bits .or .i64 (bits .and .i64 (shrv .i64 sb 4) 7) (shlv .i64 (bits .and .i64 b 1) 3)), put (bits .and .i64 (shrv .i64 sb 8) 15), put (bits .or .i64 (bits .and .i64 (shrv .i64 sb 12) 3) (shlv .i64 (shrv .i64 b 1) 2))]
noncomputable def m6 (pn sb b : Int) (A : Prop) : Prop := e16 (bits .and .i64 pn 15) ∧ e16 (shrv .i64 pn 4) ∧ e16 (bits .and .i64 sb 15) ∧ e16 (bits .or .i64 (bits .and .i64 (shrv .i64 sb 4) 7) (shlv .i64 (bits .and .i64 b 1) 3)) ∧ e16 (bits .and .i64 (shrv .i64 sb 8) 15) ∧ e16 (bits .or .i64 (bits .and .i64 (shrv .i64 sb 12) 3) (shlv .i64 (shrv .i64 b 1) 2)) ∧ A
noncomputable def t8 (all : Int) : List Int := [put (bits .and .i64 (shrv .i64 all 3) 15), put (bits .and .i64 (shrv .i64 all 7) 15)]
noncomputable def hdD (h : Hx) (all : Int) (xs : List Int) : List Int := pl6 h.pn h.sb (bits .and .i64 all 7) ++ t8 all ++ xs
noncomputable def hdT (h : Hx) (all : Int) (xs : List Int) : List Int := List.take (8 + xs.length) (hdD h all xs)
noncomputable def adr (mg row : Int) : Int := bits .or .i64 (mg.tmod 8) (shlv .i64 (bits .and .i64 row 1) 3)
noncomputable def pkB (mg row : Int) (ds : List Int) : List Int := [put (adr mg row), put (shrv .i64 row 1)] ++ ds
noncomputable def oPr (x : NC) (e : Int) : Out := ⟨.tu [.c x, .c (.i .i64 e)], []⟩
def zz2 (n m : Nat) (A : Prop) : Prop := sel (decide ((n + m) * bytesT Tryz.prog 5 ≤ 140737488355328)) (sel (decide (n + m ≤ 9223372036854775807)) A False) False
noncomputable def hbI (h : Hx) (all : Int) (xs : List Int) (R : Out → Prop) : Prop :=
  m6 h.pn h.sb (bits .and .i64 all 7) (e16 (bits .and .i64 (shrv .i64 all 3) 15) ∧ (e16 (bits .and .i64 (shrv .i64 all 7) 15) ∧ zz2 8 xs.length (sel (decide (0 + (8 + xs.length) ≤ (hdD h all xs).length)) (
    e16 (adr h.mg 0) ∧ (e16 0 ∧ zz2 2 (hdT h all xs).length (2 + (hdT h all xs).length = (pkB h.mg 0 (hdT h all xs)).length ∧ R (oPr (.l .u8 (pkB h.mg 0 (hdT h all xs))) 0)))) False)))
noncomputable def hbT (h : Hx) (xs : List Int) (R : Out → Prop) : Prop :=
  sel (decide (h.mg ≥ 1)) (sel (decide (h.mg ≤ 8)) (sel (decide (h.pn ≥ 0)) (sel (decide (h.pn ≤ 255)) (sel (decide (h.sb ≥ 0)) (sel (!(bits .andNot .i64 h.sb 16255 == 0)) (R (oPr .sn 101)) (sel ((xs.length : Int) != 32) (R (oPr .sn 102))
    (sHB xs h 0 0 = sHB xs h 0 0 ∧ hbI h (alV h 11) xs R))) (R (oPr .sn 101))) (R (oPr .sn 101))) (R (oPr .sn 101))) (R (oPr .sn 101))) (R (oPr .sn 101))
noncomputable def t_hbC : Con := softT [] [0] [] [] 0 t_hb0
theorem k_hbC : Known Tryz.prog GL 38 t_hbC := k_hb0.soft [] [0] [] [] 0
theorem hbc_tree (h : Hx) (xs : List Int) (R : Out → Prop) : (t_hbC [.ag h.nc, .c (.l .u8 xs)] []).run R = hbT h xs R := by kernel_rfl
end Go.Proofs.YtdhhjgplnmpjcaaGreatDoor.bm
namespace Go.Proofs.YtdhhjgplnmpjcaaGreatDoor.bm
open Go.Proofs.YtdhhjgplnmpjcaaGreatDoor.sto (sT sF)
open Go.Proofs.YtdhhjgplnmpjcaaGreatDoor.pge (Hx)
open Go Go.Nx Go.Proofs.YtdhhjgplnmpjcaaGreatDoor.pk Go.Proofs.YtdhhjgplnmpjcaaGreatDoor.ln Go.Proofs.YtdhhjgplnmpjcaaGreatDoor.hd Go.Proofs.YtdhhjgplnmpjcaaGreatDoor.lb Go.Proofs.YtdhhjgplnmpjcaaGreatDoor.sv
def right (m p s : Int) : Prop := (1 ≤ m ∧ m ≤ 8) ∧ (0 ≤ p ∧ p ≤ 255) ∧ 0 ≤ s ∧ bits .andNot .i64 s 16255 = 0
theorem adr_all : ∀ g < 8, ∀ r < 32, 0 ≤ adr (Int.ofNat g + 1) (Int.ofNat r) ∧ adr (Int.ofNat g + 1) (Int.ofNat r) < 16 := by decide +kernel
theorem adr_in {m r : Int} (hm : 1 ≤ m ∧ m ≤ 8) (hr : 0 ≤ r ∧ r < 32) : e16 (adr m r) := by
  have := adr_all (m - 1).toNat (by omega) r.toNat (by omega)
  have e1 : Int.ofNat (m - 1).toNat + 1 = m := by show (((m - 1).toNat : Nat) : Int) + 1 = m; omega
  have e2 : Int.ofNat r.toNat = r := by show ((r.toNat : Nat) : Int) = r; omega
  rw [e1, e2] at this
  exact this
theorem m6_in {p s b : Int} {A : Prop} (hp : 0 ≤ p ∧ p ≤ 255) (hb : 0 ≤ b ∧ b < 8) (h : A) : m6 p s b A := by
  have c1 : e16 (aI p 15) := by rw [aI_15]; exact ⟨by omega, by omega⟩
  have c2 : e16 (shrv .i64 p 4) := by rw [sh_4]; exact ⟨by omega, by omega⟩
  have c3 : e16 (aI s 15) := by rw [aI_15]; exact ⟨by omega, by omega⟩
  have c4 : e16 (nb3 s (aI b 1)) := by rw [aI_1, nb3_eq _ _ (by omega)]; exact ⟨by omega, by omega⟩
  have c5 : e16 (nb4 s) := by rw [nb4_eq]; exact ⟨by omega, by omega⟩
  have c6 : e16 (nb5 s (shrv .i64 b 1)) := by rw [sh_1, nb5_eq _ _ (by omega)]; exact ⟨by omega, by omega⟩
  exact ⟨c1, c2, c3, c4, c5, c6, h⟩
theorem zz2_in {n m : Nat} {A : Prop} (h : n + m ≤ 10000) (hA : A) : zz2 n m A := by
  unfold zz2
  rw [bytesU]
  exact sT (decide_eq_true (by omega)) (sT (decide_eq_true (by omega)) hA)
theorem hdD_len (h : Hx) (all : Int) (xs : List Int) : (hdD h all xs).length = 8 + xs.length := by
  unfold hdD
  rw [List.length_append]
  rfl
theorem hdT_eq (h : Hx) (all : Int) (xs : List Int) : hdT h all xs = hdD h all xs := by
  unfold hdT
  rw [← hdD_len h all xs, List.take_length]
noncomputable def hbV (h : Hx) (xs : List Int) : List Int := pkB h.mg 0 (hdD h (alV h 11) xs)
attribute [local irreducible] zz2 in
theorem hbI_in {h : Hx} {all : Int} {xs : List Int} {R : Out → Prop} (hr : right h.mg h.pn h.sb) (hl : xs.length = 32) (hR : R (oPr (.l .u8 (pkB h.mg 0 (hdD h all xs))) 0)) : hbI h all xs R := by
  have ha : 0 ≤ bits .and .i64 all 7 ∧ bits .and .i64 all 7 < 8 := by
    have e : bits .and .i64 all 7 = all % 8 := and_mask64 all 3 (by decide)
    rw [e]
    omega
  have k3 : e16 (bits .and .i64 (shrv .i64 all 3) 15) := by
    have e : bits .and .i64 (shrv .i64 all 3) 15 = (shrv .i64 all 3) % 16 := and_mask64 _ 4 (by decide)
    rw [e]
    exact ⟨by omega, by omega⟩
  have k7 : e16 (bits .and .i64 (shrv .i64 all 7) 15) := by
    have e : bits .and .i64 (shrv .i64 all 7) 15 = (shrv .i64 all 7) % 16 := and_mask64 _ 4 (by decide)
    rw [e]
    exact ⟨by omega, by omega⟩
  have hd := hdD_len h all xs
  have hp : (pkB h.mg 0 (hdD h all xs)).length = 2 + (hdD h all xs).length := by unfold pkB; rw [List.length_append]; rfl
  have h40 : 8 + xs.length ≤ 10000 := by omega
  have h41 : 0 + (8 + xs.length) ≤ (hdD h all xs).length := by omega
  have h42 : 2 + (hdD h all xs).length ≤ 10000 := by omega
  have h43 : e16 (adr h.mg 0) := adr_in hr.1 ⟨by decide, by decide⟩
  have h44 : e16 0 := ⟨by decide, by decide⟩
  unfold hbI
  rw [hdT_eq]
  refine m6_in hr.2.1 ha (And.intro k3 (And.intro k7 ?_))
  refine zz2_in (n := 8) (m := xs.length) h40 ?_
  refine sT (decide_eq_true h41) (And.intro h43 (And.intro h44 ?_))
  exact zz2_in (n := 2) (m := (hdD h all xs).length) h42 (And.intro hp.symm hR)
noncomputable def tHB : Con := fun args regs => match args, regs with
  | [.ag [.i _ mg, .i _ pn, .i _ sb, .b c0, .b c1, .b c2, .b c3, .b c4, .b c5, .b c6, .b c7, .b c8, .b c9, .b c10, .i _ op], .c (.l _ xs)], [] =>
    .must (args = [.ag (Hx.nc ⟨mg, pn, sb, c0, c1, c2, c3, c4, c5, c6, c7, c8, c9, c10, op⟩), .c (.l .u8 xs)] ∧ right mg pn sb ∧ xs.length = 32) (.ret (oPr (.l .u8 (hbV ⟨mg, pn, sb, c0, c1, c2, c3, c4, c5, c6, c7, c8, c9, c10, op⟩ xs)) 0))
  | _, _ => .fail
attribute [local irreducible] t_hbC in
set_option maxRecDepth 100000 in
theorem kHB : Known Tryz.prog GL 38 tHB := by
  refine k_hbC.less fun args regs R h => ?_
  unfold tHB at h
  split at h
  case h_2 => exact h.elim
  rename_i _ mg _ pn _ sb c0 c1 c2 c3 c4 c5 c6 c7 c8 c9 c10 _ op _ xs
  obtain ⟨⟨h1, hr, hl⟩, h⟩ := h
  rw [h1]
  refine (Box.of_eq (hbc_tree ⟨mg, pn, sb, c0, c1, c2, c3, c4, c5, c6, c7, c8, c9, c10, op⟩ xs R) ?_).out
  unfold hbT
  exact sT (decide_eq_true hr.1.1) (sT (decide_eq_true hr.1.2) (sT (decide_eq_true hr.2.1.1) (sT (decide_eq_true hr.2.1.2) (sT (decide_eq_true hr.2.2.1) (sF (by rw [Bool.not_eq_false', beq_iff_eq]; exact hr.2.2.2) (sF (by rw [bne_eq_false_iff_eq]; omega) ⟨rfl, hbI_in hr hl h⟩))))))
def pgs8 : List Int := [0, 1, 2, 35, 153, 255, 26, 16]
def sub4 : List Int := [0, 1, 2, 16255]
def plP (b : Int) : Int := pgs8.getD (b % 8).toNat 0
def plS (c : Int) : Int := sub4.getD (c % 4).toNat 0
def i83 (n : Int) (l : Nat) (A : Prop) : Prop := sel (decide (0 ≤ n)) (sel (decide (n < (l : Int))) (sel (decide (0 + n.toNat < l)) A False) False) False
theorem pl_tree (a b c : Int) (R : Out → Prop) : (t_pl0 [.c (.i .i64 a), .c (.i .i64 b), .c (.i .i64 c)] []).run R =
    (((0 : Int) < 3 ∧ (3 : Int) < 4611686018427387904) ∧ (((0 : Int) < 8 ∧ (8 : Int) < 4611686018427387904) ∧ i83 (b % 8) 8 (((0 : Int) < 4 ∧ (4 : Int) < 4611686018427387904) ∧ i83 (c % 4) 4
      (R ⟨.v (.ag [.i .i64 (IntKind.i64.wrap (a % 3 + 1)), .i .i64 (pgs8.getD (0 + (b % 8).toNat) 0), .i .i64 (sub4.getD (0 + (c % 4).toNat) 0)]), []⟩)))) := by kernel_rfl
noncomputable def oPl (a b c : Int) : Out := ⟨.v (.ag [.i .i64 (a % 3 + 1), .i .i64 (plP b), .i .i64 (plS c)]), []⟩
noncomputable def tPl : Con := fun args regs => match args, regs with
  | [.c (.i _ a), .c (.i _ b), .c (.i _ c)], [] => .must (args = [.c (.i .i64 a), .c (.i .i64 b), .c (.i .i64 c)]) (.ret (oPl a b c))
  | _, _ => .fail
theorem i83_in {n : Int} {l : Nat} {A : Prop} (h : 0 ≤ n ∧ n < (l : Int)) (hA : A) : i83 n l A := sT (decide_eq_true h.1) (sT (decide_eq_true h.2) (sT (decide_eq_true (by omega)) hA))
attribute [local irreducible] t_pl0 in
set_option maxRecDepth 100000 in
theorem kPl : Known Tryz.prog GL 21 tPl := by
  refine k_pl0.less fun args regs R h => ?_
  unfold tPl at h
  split at h
  case h_2 => exact h.elim
  rename_i _ a _ b _ c
  obtain ⟨h1, h⟩ := h
  rw [h1]
  refine (Box.of_eq (pl_tree a b c R) ⟨⟨by decide, by decide⟩, ⟨by decide, by decide⟩, i83_in ⟨by omega, by show b % 8 < 8; omega⟩ ⟨⟨by decide, by decide⟩, i83_in ⟨by omega, by show c % 4 < 4; omega⟩ ?_⟩⟩).out
  have hw : IntKind.i64.wrap (a % 3 + 1) = a % 3 + 1 := by rw [IntKind.wrap_i64]; omega
  rw [hw, Nat.zero_add, Nat.zero_add]
  exact h
theorem plP_in (b : Int) : 0 ≤ plP b ∧ plP b ≤ 255 := by
  have key : ∀ n < 8, 0 ≤ pgs8.getD n 0 ∧ pgs8.getD n 0 ≤ 255 := by decide
  exact key _ (by omega)
theorem pl_right (a b c : Int) : right (a % 3 + 1) (plP b) (plS c) := by
  have key : ∀ n < 4, 0 ≤ sub4.getD n 0 ∧ bits .andNot .i64 (sub4.getD n 0) 16255 = 0 := by decide +kernel
  have h := key (c % 4).toNat (by omega)
  exact ⟨⟨by omega, by omega⟩, plP_in b, h.1, h.2⟩
end Go.Proofs.YtdhhjgplnmpjcaaGreatDoor.bm
namespace Go.Proofs.YtdhhjgplnmpjcaaGreatDoor.bm
open Go.Proofs.YtdhhjgplnmpjcaaGreatDoor.sto (sT sF)
open Go.Proofs.YtdhhjgplnmpjcaaGreatDoor.pge (Hx)
open Go Go.Nx Go.Proofs.YtdhhjgplnmpjcaaGreatDoor.pk Go.Proofs.YtdhhjgplnmpjcaaGreatDoor.ln Go.Proofs.YtdhhjgplnmpjcaaGreatDoor.hd Go.Proofs.YtdhhjgplnmpjcaaGreatDoor.lb Go.Proofs.YtdhhjgplnmpjcaaGreatDoor.sv
noncomputable abbrev f_by := Tryz.f13
noncomputable def t_tof : Con := fun args regs => nfun Tryz.prog GL (fun _ => Option.none) [] Tryz.f41 args regs
theorem k_tof : Known Tryz.prog GL 41 t_tof := known_inl Tryz.func41 rfl (by kernel_rfl) mixed con_none (by kernel_rfl)
noncomputable def c_by : FuncId → Option Con := conOf [(9, num.tNumV), (21, tPl), (39, tOddB), (38, tHB), (40, t_rpkd), (41, t_tof), (42, ts.tRTBg)]
theorem kc_by : ∀ f T, c_by f = some T → Known Tryz.prog GL f T := (Knowns.cons (known_gl num.kNumV) (.cons kPl (.cons kOddB (.cons kHB (.cons k_rpkd (.cons k_tof (.cons ts.kRTBg .nil))))))).get
noncomputable def X_by : Cx := { P := Tryz.prog, con := c_by, glob := GL, m := 0, loops := [] }
noncomputable def lp1 : St → Tr (NExit × St) := unroll X_by 1 [1, 2, 3, 4, 5, 6] [1, 2, 3, 4, 5] (bodyLoop f_by 1) 12
noncomputable def t_by : Con := fun args regs => if regs.length = 0 then nfun Tryz.prog GL c_by [(1, [1, 2, 3, 4, 5, 6], lp1)] f_by args regs else .fail
theorem by_loops : (loopsIn (f_by.body.getD .skip)).filter (fun p => p.1 == 1) = [(1, bodyLoop f_by 1)] := by kernel_rfl
theorem by_ranges : rangesIn (f_by.body.getD .skip) = [] := by kernel_rfl
theorem k_by : Known Tryz.prog GL 13 t_by := by
  refine known_loops (c := f_by.body.getD .skip) 0 Tryz.func13 (by kernel_rfl) (by kernel_rfl) mixed kc_by ⟨fun i b hb x hf => ?_, fun i b hb x hf => ?_⟩
  · have hx : x = (1, [1, 2, 3, 4, 5, 6], lp1) := by
      have := List.mem_of_find?_eq_some hf
      simpa using this
    have hi : i = 1 := by
      have := List.find?_some hf
      rw [hx] at this
      exact (eq_of_beq this).symm
    have hm : (i, b) ∈ (loopsIn (f_by.body.getD .skip)).filter (fun p => p.1 == 1) := List.mem_filter.2 ⟨hb, by rw [hi]; rfl⟩
    rw [by_loops, List.mem_singleton] at hm
    cases hm
    rw [hx]
    exact unroll_ok (X := X_by) kc_by mixed (LAll.none (by kernel_rfl)) [1, 2, 3, 4, 5, 6] [1, 2, 3, 4, 5] 12
  · rw [by_ranges] at hb
    cases hb
noncomputable def t_byC : Con := softT [] [0] [(0, 0, 0, .l .u8 [])] [] 0 t_by
theorem k_byC : Known Tryz.prog GL 13 t_byC := k_by.soft [] [0] [(0, 0, 0, .l .u8 [])] [] 0
structure Dv where
  k : Int
  mag : Int
  pg : Int
  sb : Int
  n : Int
  L : List Int
  T : List Int
  W : List Int
  B : List Int
def Dv.nv (d : Dv) : NV := .ag [.i .i64 d.k, .i .i64 d.mag, .i .i64 d.pg, .i .i64 d.sb, .i .i64 d.n, .l .i64 d.L, .l .u8 d.T, .l .u8 d.W, .l .i64 d.B]
noncomputable def cbit (n : Int) (k : Nat) : Bool := bits .and .i64 (shrv .i64 n (Int.ofNat k)) 1 == 1
noncomputable def hxOf (d : Dv) : Hx := ⟨d.mag % 3 + 1, plP d.pg, plS d.sb, cbit d.n 0, cbit d.n 1, cbit d.n 2, cbit d.n 3, cbit d.n 4, cbit d.n 5, cbit d.n 6, cbit d.n 7, cbit d.n 8, cbit d.n 9, cbit d.n 10, 0⟩
def plA (d : Dv) : Prop := [NV.c (.i .i64 d.mag), .c (.i .i64 d.pg), .c (.i .i64 d.sb)] = [NV.c (.i .i64 d.mag), .c (.i .i64 d.pg), .c (.i .i64 d.sb)]
def nmA (m : Int) : Prop := 0 < m ∧ m < 4611686018427387904
def odA (T : List Int) (n : Int) : Prop := [NV.c (.l .u8 T), .c (.i .i64 n)] = [NV.c (.l .u8 T), .c (.i .i64 n)] ∧ 0 < n ∧ n ≤ 100
theorem by_1 (mag pg sb n : Int) (L T W B : List Int) (R : Out → Prop) : (t_byC [Dv.nv ⟨1, mag, pg, sb, n, L, T, W, B⟩] []).run R =
    (plA ⟨1, mag, pg, sb, n, L, T, W, B⟩ ∧ (odA T 32 ∧ (([NV.ag (hxOf ⟨1, mag, pg, sb, n, L, T, W, B⟩).nc, .c (.l .u8 (odV T 32))] = [NV.ag (hxOf ⟨1, mag, pg, sb, n, L, T, W, B⟩).nc, .c (.l .u8 (odV T 32))] ∧ right (mag % 3 + 1) (plP pg) (plS sb) ∧ (odV T 32).length = 32) ∧ R (oLu (hbV (hxOf ⟨1, mag, pg, sb, n, L, T, W, B⟩) (odV T 32)))))) := by kernel_rfl
theorem by_2 (mag pg sb n : Int) (L T W B : List Int) (R : Out → Prop) : (t_byC [Dv.nv ⟨2, mag, pg, sb, n, L, T, W, B⟩] []).run R =
    (plA ⟨2, mag, pg, sb, n, L, T, W, B⟩ ∧ (nmA 25 ∧ (odA T 40 ∧ (e16 (adr (mag % 3 + 1) (n % 25)) ∧ (e16 (shrv .i64 (n % 25) 1) ∧ (42 = 42 ∧ R (oLu (pkB (mag % 3 + 1) (n % 25) (odV T 40))))))))) := by kernel_rfl
noncomputable def opt (n sb : Int) : Int := bits .or .i64 (shlv .i64 (n % 16) 10) (IntKind.i64.wrap ((sb % 5).tdiv 4))
noncomputable def trR (v : Int) : List Sc := [.i (bits .and .i64 v 63), .i (bits .and .i64 (shrv .i64 v 6) 31), .i (bits .and .i64 (shrv .i64 v 11) 127)]
noncomputable def trO (n sb : Int) : List (List Sc) := trR (opt n sb) :: List.replicate 12 [.i 0, .i 0, .i 0]
noncomputable def cdO (pg : Int) : Int := IntKind.i64.wrap (IntKind.i64.wrap ((pg % 3).tdiv 2) * 3)
noncomputable def trB (mg row cd : Int) (rows : List (List Sc)) : List Int := adr0 mg row :: adr1 row :: ts.LTg cd rows
theorem by_5 (mag pg sb n : Int) (L T W B : List Int) (R : Out → Prop) : (t_byC [Dv.nv ⟨5, mag, pg, sb, n, L, T, W, B⟩] []).run R =
    (plA ⟨5, mag, pg, sb, n, L, T, W, B⟩ ∧ (nmA 16 ∧ (nmA 5 ∧ (nmA 3 ∧ sel (ts.okTB (mag % 3 + 1) 28 (cdO pg)) (42 = 42 ∧ R (oLu (trB (mag % 3 + 1) 28 (cdO pg) (trO n sb)))) (R (oLu [])))))) := by kernel_rfl
theorem by_6 (mag pg sb n : Int) (L T W B : List Int) (R : Out → Prop) : (t_byC [Dv.nv ⟨6, mag, pg, sb, n, L, T, W, B⟩] []).run R =
    (plA ⟨6, mag, pg, sb, n, L, T, W, B⟩ ∧ (nmA 16 ∧ (nmA 5 ∧ (nmA 3 ∧ sel (ts.okTB (mag % 3 + 1) 29 (cdO pg)) (42 = 42 ∧ R (oLu (trB (mag % 3 + 1) 29 (cdO pg) (trO n sb)))) (R (oLu [])))))) := by kernel_rfl
end Go.Proofs.YtdhhjgplnmpjcaaGreatDoor.bm
namespace Go.Proofs.YtdhhjgplnmpjcaaGreatDoor.bm
open Go.Proofs.YtdhhjgplnmpjcaaGreatDoor.sto (sT sF)
open Go.Proofs.YtdhhjgplnmpjcaaGreatDoor.pge (Hx)
open Go Go.Nx Go.Proofs.YtdhhjgplnmpjcaaGreatDoor.pk Go.Proofs.YtdhhjgplnmpjcaaGreatDoor.ln Go.Proofs.YtdhhjgplnmpjcaaGreatDoor.hd Go.Proofs.YtdhhjgplnmpjcaaGreatDoor.lb Go.Proofs.YtdhhjgplnmpjcaaGreatDoor.sv
noncomputable def byV (d : Dv) : List Int :=
  bif d.k == 1 then hbV (hxOf d) (odV d.T 32) else bif d.k == 2 then pkB (d.mag % 3 + 1) (d.n % 25) (odV d.T 40)
  else bif d.k == 5 then trB (d.mag % 3 + 1) 28 (cdO d.pg) (trO d.n d.sb) else trB (d.mag % 3 + 1) 29 (cdO d.pg) (trO d.n d.sb)
def okD (d : Dv) : Prop := d.k = 1 ∨ d.k = 2 ∨ d.k = 5 ∨ d.k = 6
theorem cdO_in (pg : Int) : 0 ≤ cdO pg ∧ cdO pg ≤ 3 := by
  have key : ∀ n < 3, 0 ≤ IntKind.i64.wrap (IntKind.i64.wrap ((Int.ofNat n).tdiv 2) * 3) ∧ IntKind.i64.wrap (IntKind.i64.wrap ((Int.ofNat n).tdiv 2) * 3) ≤ 3 := by decide +kernel
  have h := key (pg % 3).toNat (by omega)
  have e : Int.ofNat (pg % 3).toNat = pg % 3 := by show (((pg % 3).toNat : Nat) : Int) = pg % 3; omega
  rw [e] at h
  exact h
theorem okTB_of {mg row cd : Int} (hm : 1 ≤ mg ∧ mg ≤ 8) (hc : 0 ≤ cd ∧ cd ≤ 3) (hr : row = 28 ∨ row = 29 ∨ row = 26) : ts.okTB mg row cd = true := by
  unfold ts.okTB
  rw [decide_eq_true (show 1 ≤ mg ∧ mg ≤ 8 ∧ 0 ≤ cd ∧ cd ≤ 15 from ⟨hm.1, hm.2, hc.1, by omega⟩)]
  rcases hr with rfl | rfl | rfl <;> rfl
noncomputable def tBy : Con := fun args regs => match args, regs with
  | [.ag [.i _ k, .i _ mag, .i _ pg, .i _ sb, .i _ n, .l _ L, .l _ T, .l _ W, .l _ B]], [] => .must (args = [Dv.nv ⟨k, mag, pg, sb, n, L, T, W, B⟩] ∧ okD ⟨k, mag, pg, sb, n, L, T, W, B⟩) (.ret (oLu (byV ⟨k, mag, pg, sb, n, L, T, W, B⟩)))
  | _, _ => .fail
attribute [local irreducible] t_byC in
set_option maxRecDepth 100000 in
theorem kBy : Known Tryz.prog GL 13 tBy := by
  refine k_byC.less fun args regs R h => ?_
  unfold tBy at h
  split at h
  case h_2 => exact h.elim
  rename_i _ k _ mag _ pg _ sb _ n _ L _ T _ W _ B
  obtain ⟨⟨h1, hk⟩, h⟩ := h
  rw [h1]
  have hm : 1 ≤ mag % 3 + 1 ∧ mag % 3 + 1 ≤ 8 := ⟨by omega, by omega⟩
  have n16 : nmA 16 := ⟨by decide, by decide⟩
  have n5 : nmA 5 := ⟨by decide, by decide⟩
  have n3 : nmA 3 := ⟨by decide, by decide⟩
  have n25 : nmA 25 := ⟨by decide, by decide⟩
  have hk' : k = 1 ∨ k = 2 ∨ k = 5 ∨ k = 6 := hk
  rcases hk' with rfl | rfl | rfl | rfl
  · exact (Box.of_eq (by_1 mag pg sb n L T W B R) ⟨rfl, ⟨rfl, by decide, by decide⟩, ⟨rfl, pl_right mag pg sb, odV_len _ _⟩, h⟩).out
  · have e1 : e16 (adr (mag % 3 + 1) (n % 25)) := adr_in hm ⟨by omega, by omega⟩
    have e2 : e16 (shrv .i64 (n % 25) 1) := by rw [sh_1]; exact ⟨by omega, by omega⟩
    exact (Box.of_eq (by_2 mag pg sb n L T W B R) ⟨rfl, n25, ⟨rfl, by decide, by decide⟩, e1, e2, rfl, h⟩).out
  · exact (Box.of_eq (by_5 mag pg sb n L T W B R) ⟨rfl, n16, n5, n3, sT (okTB_of hm (cdO_in pg) (.inl rfl)) ⟨rfl, h⟩⟩).out
  · exact (Box.of_eq (by_6 mag pg sb n L T W B R) ⟨rfl, n16, n5, n3, sT (okTB_of hm (cdO_in pg) (.inr (.inl rfl))) ⟨rfl, h⟩⟩).out
def Dv.fc (d : Dv) : List FC := [.i d.k, .i d.mag, .i d.pg, .i d.sb, .i d.n, .is d.L, .is d.T, .is d.W, .is d.B]
def dvSch : List Part := [.i .i64, .i .i64, .i .i64, .i .i64, .i .i64, .l .i64, .l .u8, .l .u8, .l .i64]
noncomputable def dvReg (l : List Dv) : Reg := ⟨9, 36, .tab dvSch (l.map Dv.fc)⟩
def ofFc (r : List FC) : Dv := ⟨(r.getD 0 (.i 0)).n, (r.getD 1 (.i 0)).n, (r.getD 2 (.i 0)).n, (r.getD 3 (.i 0)).n, (r.getD 4 (.i 0)).n, (r.getD 5 (.i 0)).li, (r.getD 6 (.i 0)).li, (r.getD 7 (.i 0)).li, (r.getD 8 (.i 0)).li⟩
end Go.Proofs.YtdhhjgplnmpjcaaGreatDoor.bm
namespace Go.Proofs.YtdhhjgplnmpjcaaGreatDoor.df
open Go.Proofs.YtdhhjgplnmpjcaaGreatDoor.sto (sT sF)
open Go Go.Nx Go.Proofs.YtdhhjgplnmpjcaaGreatDoor.pk Go.Proofs.YtdhhjgplnmpjcaaGreatDoor.mac Go.Proofs.YtdhhjgplnmpjcaaGreatDoor.bm
noncomputable abbrev f_df := Tryz.f5
noncomputable def c_df : FuncId → Option Con := conOf [(8, tF14), (9, num.tNumV), (11, tNewM), (13, tBy), (12, tPkN), (21, tPl), (19, tFd)]
theorem kc_df : ∀ f T, c_df f = some T → Known Tryz.prog GL f T := (Knowns.cons kF14 (.cons (known_gl num.kNumV) (.cons kNewM (.cons kBy (.cons kPkN (.cons kPl (.cons kFd .nil))))))).get
noncomputable def X_df : Cx := { P := Tryz.prog, con := c_df, glob := GL, m := 0, loops := [] }
noncomputable def sDf (r o : Int) (p a : Bool) (M : Mc) (l : List Dv) (i : Int) : St := { fr := frame 106 [(0, .v (.c (.i .i64 r))), (1, .v (.c (.i .i64 o))), (2, .v (.c (.b p))), (3, .v (.c (.b a))), (9, .v (.c (.b true))), (10, .v (.c (.p 0 0 0))), (13, .v (.c (.h 4 0 l.length))), (14, .v (.c (.i .i64 i)))], rg := (inM M).map some ++ [some (dvReg l)] }
noncomputable def dDf (r o : Int) (p a : Bool) (M : Mc) : St := { fr := frame 106 [(0, .v (.c (.i .i64 r))), (1, .v (.c (.i .i64 o))), (2, .v (.c (.b p))), (3, .v (.c (.b a))), (9, .v (.c (.b true))), (10, .v (.c (.p 0 0 0)))], rg := (inM M).map some }
def B8 (b : Int) : Prop := 0 ≤ b ∧ b < 256
theorem put_in (n : Int) : B8 (put n) := by
  have key : ∀ m < 16, 0 ≤ putL.getD m 0 ∧ putL.getD m 0 < 256 := by decide +kernel
  exact key (n % 16).toNat (by omega)
theorem u8_in (v : BitVec 8) : B8 (u8 v) := by
  have := v.isLt
  unfold B8 u8
  omega
theorem odV_in (T : List Int) (k : Nat) : ∀ b ∈ odV T k, B8 b := by
  intro b hb
  unfold odV at hb
  obtain ⟨i, -, rfl⟩ := List.mem_map.1 hb
  exact sv.mkO_in _
theorem app_in {l m : List Int} (h1 : ∀ b ∈ l, B8 b) (h2 : ∀ b ∈ m, B8 b) : ∀ b ∈ l ++ m, B8 b := fun b hb => (List.mem_append.1 hb).elim (h1 b) (h2 b)
theorem pkB_in {mg row : Int} {ds : List Int} (h : ∀ b ∈ ds, B8 b) : ∀ b ∈ pkB mg row ds, B8 b := List.forall_mem_cons.2 ⟨put_in _, List.forall_mem_cons.2 ⟨put_in _, h⟩⟩
theorem hbV_in (h : pge.Hx) {xs : List Int} (hx : ∀ b ∈ xs, B8 b) : ∀ b ∈ hbV h xs, B8 b := by
  refine pkB_in (app_in (app_in ?_ ?_) hx)
  · unfold pl6
    repeat (refine List.forall_mem_cons.2 ⟨put_in _, ?_⟩)
    intro b hb; cases hb
  · unfold t8
    repeat (refine List.forall_mem_cons.2 ⟨put_in _, ?_⟩)
    intro b hb; cases hb
theorem tw_in (r : List Sc) : ∀ b ∈ tr.tw r, B8 b := by
  unfold tr.tw
  repeat (refine List.forall_mem_cons.2 ⟨u8_in _, ?_⟩)
  intro b hb; cases hb
theorem trB_in (mg row cd : Int) (rows : List (List Sc)) : ∀ b ∈ trB mg row cd rows, B8 b := by
  refine List.forall_mem_cons.2 ⟨put_in _, List.forall_mem_cons.2 ⟨put_in _, ?_⟩⟩
  unfold ts.LTg tr.LT
  refine List.forall_mem_cons.2 ⟨put_in _, ?_⟩
  iterate 12 (refine app_in (tw_in _) ?_)
  exact tw_in _
theorem byV_in (d : Dv) : ∀ b ∈ byV d, B8 b := by
  unfold byV
  cases d.k == 1 with
  | true => exact hbV_in _ (odV_in _ _)
  | false =>
    cases d.k == 2 with
    | true => exact pkB_in (odV_in _ _)
    | false =>
      cases d.k == 5 with
      | true => exact trB_in _ _ _ _
      | false => exact trB_in _ _ _ _
def okRun (M : Mc) : List Dv → Prop
  | [] => True
  | d :: l => okD d ∧ (M.step (byV d)).2 = none ∧ okRun (M.step (byV d)).1 l
noncomputable def runP (M : Mc) (l : List Dv) : Mc := l.foldl (fun M d => (M.step (byV d)).1) M
def rwD (l : List Dv) (i : Int) : Dv := ofFc ((l.map Dv.fc).getD (0 + i.toNat) [])
noncomputable def inDf (r o : Int) (p a : Bool) (M : Mc) (l : List Dv) (i : Int) (R : RO → Prop) : Prop :=
  sel (decide (i < (l.length : Int))) (sel (decide (0 ≤ i)) (sel (decide (i < (l.length : Int))) (sel (decide (0 + i.toNat < (l.map Dv.fc).length)) (
    ([(rwD l i).nv] = [(rwD l i).nv] ∧ okD (rwD l i)) ∧ ((inM M = inM (bk M) ∧ (bk M).ok) ∧ (([NV.c (.p 0 0 0), .c (.l .u8 (byV (rwD l i)))] = [NV.c (.p 0 0 0), .c (.l .u8 (byV (rwD l i)))] ∧ (bk M).good ∧ (∀ b ∈ byV (rwD l i), 0 ≤ b ∧ b < 256) ∧ ((bk M).step (byV (rwD l i))).2 = none) ∧
      R (.next (sDf r o p a ((bk M).step (byV (rwD l i))).1 l (IntKind.i64.wrap (i + 1))))))) False) False) False) (R (.done .normal (dDf r o p a M)))
structure ADf where
  M : Mc
  i : Int
def preDf (r o : Int) (p a : Bool) (l : List Dv) (x : ADf) (R : NExit × St → Prop) : Prop := (0 ≤ x.i ∧ x.i ≤ (l.length : Int)) ∧ l.length ≤ 1000 ∧ x.M.good ∧ okRun x.M (l.drop x.i.toNat) ∧ R (.normal, dDf r o p a (runP x.M (l.drop x.i.toNat)))
def nxtDf (r o : Int) (p a : Bool) (l : List Dv) (x : ADf) (R : NExit × St → Prop) (q : RO) : Prop := match q with
  | .next s => ∃ y : ADf, s = sDf r o p a y.M l y.i ∧ ((l.length : Int) - y.i).toNat < ((l.length : Int) - x.i).toNat ∧ preDf r o p a l y R
  | .done e s => R (e, s)
theorem rwD_eq {l : List Dv} {i : Int} (h : i.toNat < l.length) : rwD l i = l[i.toNat] := by
  unfold rwD
  rw [Nat.zero_add, List.getD_eq_getElem?_getD, List.getElem?_map, List.getElem?_eq_getElem h]
  rfl
theorem df_in (r o : Int) (p a : Bool) (l : List Dv) (x : ADf) (R : NExit × St → Prop) (h : preDf r o p a l x R) : inDf r o p a x.M l x.i (nxtDf r o p a l x R) := by
  obtain ⟨M, i⟩ := x
  obtain ⟨⟨h0, hle⟩, hL, hg, hok, hR⟩ := h
  simp only at h0 hle hg hok hR
  unfold inDf
  rw [hg.bk]
  by_cases hlt : i < (l.length : Int)
  · have hj : i.toNat < l.length := by omega
    have hw : IntKind.i64.wrap (i + 1) = i + 1 := by rw [IntKind.wrap_i64]; omega
    have ht : (i + 1).toNat = i.toNat + 1 := by omega
    rw [rwD_eq hj, hw]
    rw [List.drop_eq_getElem_cons hj] at hok hR
    obtain ⟨k1, k2, k3⟩ := hok
    have hb := byV_in l[i.toNat]
    refine sT (decide_eq_true hlt) (sT (decide_eq_true h0) (sT (decide_eq_true hlt) (sT (decide_eq_true (by rw [Nat.zero_add, List.length_map]; exact hj)) ⟨⟨rfl, k1⟩, ⟨rfl, hg.ok⟩, ⟨rfl, hg, hb, k2⟩, ?_⟩)))
    exact ⟨⟨(M.step (byV l[i.toNat])).1, i + 1⟩, rfl, by simp only; omega, ⟨by simp only; omega, by simp only; omega⟩, hL, step_good hg hb, by simp only; rw [ht]; exact k3, by simp only; rw [ht]; exact hR⟩
  · refine sF (decide_eq_false hlt) ?_
    rw [List.drop_eq_nil_iff.2 (by omega)] at hR
    exact hR
end Go.Proofs.YtdhhjgplnmpjcaaGreatDoor.df
namespace Go.Proofs.YtdhhjgplnmpjcaaGreatDoor.ca
open Go.Proofs.YtdhhjgplnmpjcaaGreatDoor.sto (sT sF Ky Sp kyP kyEq kyEq_iff nk vicK goesK)
open Go.Proofs.YtdhhjgplnmpjcaaGreatDoor.ac (Pg pgZ)
open Go.Proofs.YtdhhjgplnmpjcaaGreatDoor.dec
open Go.Proofs.YtdhhjgplnmpjcaaGreatDoor.pge (Hx rowP)
open Go Go.Nx Go.Proofs.YtdhhjgplnmpjcaaGreatDoor.pk Go.Proofs.YtdhhjgplnmpjcaaGreatDoor.mac Go.Proofs.YtdhhjgplnmpjcaaGreatDoor.bm Go.Proofs.YtdhhjgplnmpjcaaGreatDoor.df
def flC : Bool → Int
  | true => 129
  | false => 1
def hdC (k : Nat) (sr : Bool) (T : List Int) : Dv := ⟨1, 0, Int.ofNat k, 0, flC sr, [], T, [], []⟩
def rwC (k : Nat) (T : List Int) : Dv := ⟨2, 0, 0, 0, Int.ofNat (k + 1), [], T, [], []⟩
noncomputable def dsH (k : Nat) (sr : Bool) (T : List Int) : List Int := (byV (hdC k sr T)).drop 2
noncomputable def hxC (k : Nat) (sr : Bool) (T : List Int) : Hx := hdV 1 (dsH k sr T)
def five (h : Hx) : Int × Int × Int × Bool × Bool := (h.mg, h.pn, h.sb, h.c0, h.c7)
theorem ph_0t (T : List Int) : pkV (byV (hdC 0 true T)) = .ok ⟨1, 0, 1, 0, dsH 0 true T⟩ ∧ hdOk (dsH 0 true T) = true ∧ five (hxC 0 true T) = (1, plP 0, 0, true, true) := ⟨by kernel_rfl, by kernel_rfl, by kernel_rfl⟩
theorem ph_0f (T : List Int) : pkV (byV (hdC 0 false T)) = .ok ⟨1, 0, 1, 0, dsH 0 false T⟩ ∧ hdOk (dsH 0 false T) = true ∧ five (hxC 0 false T) = (1, plP 0, 0, true, false) := ⟨by kernel_rfl, by kernel_rfl, by kernel_rfl⟩
theorem pr_0 (T : List Int) : pkV (byV (rwC 0 T)) = .ok ⟨1, Int.ofNat 1, 2, 0, odV T 40⟩ := by kernel_rfl
theorem ph_1t (T : List Int) : pkV (byV (hdC 1 true T)) = .ok ⟨1, 0, 1, 0, dsH 1 true T⟩ ∧ hdOk (dsH 1 true T) = true ∧ five (hxC 1 true T) = (1, plP 1, 0, true, true) := ⟨by kernel_rfl, by kernel_rfl, by kernel_rfl⟩
theorem ph_1f (T : List Int) : pkV (byV (hdC 1 false T)) = .ok ⟨1, 0, 1, 0, dsH 1 false T⟩ ∧ hdOk (dsH 1 false T) = true ∧ five (hxC 1 false T) = (1, plP 1, 0, true, false) := ⟨by kernel_rfl, by kernel_rfl, by kernel_rfl⟩
theorem pr_1 (T : List Int) : pkV (byV (rwC 1 T)) = .ok ⟨1, Int.ofNat 2, 2, 0, odV T 40⟩ := by kernel_rfl
theorem ph_2t (T : List Int) : pkV (byV (hdC 2 true T)) = .ok ⟨1, 0, 1, 0, dsH 2 true T⟩ ∧ hdOk (dsH 2 true T) = true ∧ five (hxC 2 true T) = (1, plP 2, 0, true, true) := ⟨by kernel_rfl, by kernel_rfl, by kernel_rfl⟩
theorem ph_2f (T : List Int) : pkV (byV (hdC 2 false T)) = .ok ⟨1, 0, 1, 0, dsH 2 false T⟩ ∧ hdOk (dsH 2 false T) = true ∧ five (hxC 2 false T) = (1, plP 2, 0, true, false) := ⟨by kernel_rfl, by kernel_rfl, by kernel_rfl⟩
theorem pr_2 (T : List Int) : pkV (byV (rwC 2 T)) = .ok ⟨1, Int.ofNat 3, 2, 0, odV T 40⟩ := by kernel_rfl
theorem ph_3t (T : List Int) : pkV (byV (hdC 3 true T)) = .ok ⟨1, 0, 1, 0, dsH 3 true T⟩ ∧ hdOk (dsH 3 true T) = true ∧ five (hxC 3 true T) = (1, plP 3, 0, true, true) := ⟨by kernel_rfl, by kernel_rfl, by kernel_rfl⟩
theorem ph_3f (T : List Int) : pkV (byV (hdC 3 false T)) = .ok ⟨1, 0, 1, 0, dsH 3 false T⟩ ∧ hdOk (dsH 3 false T) = true ∧ five (hxC 3 false T) = (1, plP 3, 0, true, false) := ⟨by kernel_rfl, by kernel_rfl, by kernel_rfl⟩
theorem pr_3 (T : List Int) : pkV (byV (rwC 3 T)) = .ok ⟨1, Int.ofNat 4, 2, 0, odV T 40⟩ := by kernel_rfl
theorem ph_4t (T : List Int) : pkV (byV (hdC 4 true T)) = .ok ⟨1, 0, 1, 0, dsH 4 true T⟩ ∧ hdOk (dsH 4 true T) = true ∧ five (hxC 4 true T) = (1, plP 4, 0, true, true) := ⟨by kernel_rfl, by kernel_rfl, by kernel_rfl⟩
theorem ph_4f (T : List Int) : pkV (byV (hdC 4 false T)) = .ok ⟨1, 0, 1, 0, dsH 4 false T⟩ ∧ hdOk (dsH 4 false T) = true ∧ five (hxC 4 false T) = (1, plP 4, 0, true, false) := ⟨by kernel_rfl, by kernel_rfl, by kernel_rfl⟩
theorem pr_4 (T : List Int) : pkV (byV (rwC 4 T)) = .ok ⟨1, Int.ofNat 5, 2, 0, odV T 40⟩ := by kernel_rfl
theorem ph_5t (T : List Int) : pkV (byV (hdC 5 true T)) = .ok ⟨1, 0, 1, 0, dsH 5 true T⟩ ∧ hdOk (dsH 5 true T) = true ∧ five (hxC 5 true T) = (1, plP 5, 0, true, true) := ⟨by kernel_rfl, by kernel_rfl, by kernel_rfl⟩
theorem ph_5f (T : List Int) : pkV (byV (hdC 5 false T)) = .ok ⟨1, 0, 1, 0, dsH 5 false T⟩ ∧ hdOk (dsH 5 false T) = true ∧ five (hxC 5 false T) = (1, plP 5, 0, true, false) := ⟨by kernel_rfl, by kernel_rfl, by kernel_rfl⟩
theorem pr_5 (T : List Int) : pkV (byV (rwC 5 T)) = .ok ⟨1, Int.ofNat 6, 2, 0, odV T 40⟩ := by kernel_rfl
theorem ph_6t (T : List Int) : pkV (byV (hdC 6 true T)) = .ok ⟨1, 0, 1, 0, dsH 6 true T⟩ ∧ hdOk (dsH 6 true T) = true ∧ five (hxC 6 true T) = (1, plP 6, 0, true, true) := ⟨by kernel_rfl, by kernel_rfl, by kernel_rfl⟩
theorem ph_6f (T : List Int) : pkV (byV (hdC 6 false T)) = .ok ⟨1, 0, 1, 0, dsH 6 false T⟩ ∧ hdOk (dsH 6 false T) = true ∧ five (hxC 6 false T) = (1, plP 6, 0, true, false) := ⟨by kernel_rfl, by kernel_rfl, by kernel_rfl⟩
theorem pr_6 (T : List Int) : pkV (byV (rwC 6 T)) = .ok ⟨1, Int.ofNat 7, 2, 0, odV T 40⟩ := by kernel_rfl
theorem ph_7t (T : List Int) : pkV (byV (hdC 7 true T)) = .ok ⟨1, 0, 1, 0, dsH 7 true T⟩ ∧ hdOk (dsH 7 true T) = true ∧ five (hxC 7 true T) = (1, plP 7, 0, true, true) := ⟨by kernel_rfl, by kernel_rfl, by kernel_rfl⟩
theorem ph_7f (T : List Int) : pkV (byV (hdC 7 false T)) = .ok ⟨1, 0, 1, 0, dsH 7 false T⟩ ∧ hdOk (dsH 7 false T) = true ∧ five (hxC 7 false T) = (1, plP 7, 0, true, false) := ⟨by kernel_rfl, by kernel_rfl, by kernel_rfl⟩
theorem pr_7 (T : List Int) : pkV (byV (rwC 7 T)) = .ok ⟨1, Int.ofNat 8, 2, 0, odV T 40⟩ := by kernel_rfl
theorem ph (T : List Int) : ∀ (sr : Bool) (k : Nat), k < 8 → pkV (byV (hdC k sr T)) = .ok ⟨1, 0, 1, 0, dsH k sr T⟩ ∧ hdOk (dsH k sr T) = true ∧ five (hxC k sr T) = (1, plP (Int.ofNat k), 0, true, sr)
  | true, 0, _ => ph_0t T
  | true, 1, _ => ph_1t T
  | true, 2, _ => ph_2t T
  | true, 3, _ => ph_3t T
  | true, 4, _ => ph_4t T
  | true, 5, _ => ph_5t T
  | true, 6, _ => ph_6t T
  | true, 7, _ => ph_7t T
  | false, 0, _ => ph_0f T
  | false, 1, _ => ph_1f T
  | false, 2, _ => ph_2f T
  | false, 3, _ => ph_3f T
  | false, 4, _ => ph_4f T
  | false, 5, _ => ph_5f T
  | false, 6, _ => ph_6f T
  | false, 7, _ => ph_7f T
  | true, k + 8, h => absurd h (by omega)
  | false, k + 8, h => absurd h (by omega)
theorem pr (T : List Int) : ∀ k : Nat, k < 8 → pkV (byV (rwC k T)) = .ok ⟨1, Int.ofNat (k + 1), 2, 0, odV T 40⟩
  | 0, _ => pr_0 T
  | 1, _ => pr_1 T
  | 2, _ => pr_2 T
  | 3, _ => pr_3 T
  | 4, _ => pr_4 T
  | 5, _ => pr_5 T
  | 6, _ => pr_6 T
  | 7, _ => pr_7 T
  | k + 8, h => absurd h (by omega)
theorem step_hd (M : Mc) (T : List Int) (sr : Bool) {k : Nat} (hk : k < 8) : M.step (byV (hdC k sr T)) = (M.hdM 1 (dsH k sr T), none) := by
  obtain ⟨h1, h2, -⟩ := ph T sr k hk
  unfold Mc.step
  rw [h1]
  show M.pkM ⟨1, 0, 1, 0, dsH k sr T⟩ = _
  unfold Mc.pkM
  show (match hdOk (dsH k sr T) with | true => (M.hdM 1 (dsH k sr T), none) | false => (M, some eBit)) = _
  rw [h2]
theorem step_rw (M : Mc) (T : List Int) {k : Nat} (hk : k < 8) : M.step (byV (rwC k T)) = (M.insM 1 ⟨1, Int.ofNat (k + 1), 2, 0, odV T 40⟩, none) := by
  have h1 := pr T k hk
  unfold Mc.step
  rw [h1]
  rfl
def Cl (M : Mc) : Prop := ∀ g, g ≠ 1 → (M.v g).opn = false
theorem endM_closed {M : Mc} {g : Nat} (h : (M.v g).opn = false) : M.endM g = M := by
  unfold Mc.endM
  rw [h]
theorem ends_cl {c : Bool} : ∀ (n i : Nat) {M : Mc}, 2 ≤ i → Cl M → Mc.ends c 1 n i M = M
  | 0, _, _, _, _ => rfl
  | n + 1, i, M, hi, h => by
    have e : M.endM i = M := endM_closed (h i (by omega))
    show Mc.ends c 1 n (i + 1) (match c || (i : Int) == 1 with | true => M.endM i | false => M) = M
    cases c || (i : Int) == 1 with
    | true => rw [e]; exact ends_cl n (i + 1) (by omega) h
    | false => exact ends_cl n (i + 1) (by omega) h
theorem endM_other {M : Mc} {g : Nat} (h : g ≠ 1) : (M.endM 1).v g = M.v g := by
  unfold Mc.endM
  split
  · exact upd_other h
  · rfl
theorem ends_one {c : Bool} {M : Mc} (h : Cl M) : Mc.ends c 1 8 1 M = M.endM 1 := by
  have hc : Cl (M.endM 1) := fun g hg => by rw [endM_other hg]; exact h g hg
  show Mc.ends c 1 7 2 (match c || ((1 : Nat) : Int) == 1 with | true => M.endM 1 | false => M) = _
  have e : (c || ((1 : Nat) : Int) == 1) = true := by cases c <;> rfl
  rw [e]
  exact ends_cl 7 2 (by omega) hc
noncomputable def mid (M : Mc) (k : Nat) (sr : Bool) (T : List Int) : Mc := (M.headed 1 (hxC k sr T) (dec.txV (dsH k sr T))).endM 1
theorem hdM_eq {M : Mc} (T : List Int) (sr : Bool) (k : Nat) (h : Cl M) : M.hdM 1 (dsH k sr T) = Mc.open' (mid M k sr T) 1 (hxC k sr T) (dec.txV (dsH k sr T)) := by
  have hc : Cl (M.headed 1 (hxC k sr T) (dec.txV (dsH k sr T))) := fun g hg => by
    show (upd M.v 1 _ g).opn = false
    rw [upd_other hg]
    exact h g hg
  have e := ends_one (c := (hxC k sr T).c7) hc
  show Mc.open' (Mc.ends (hxC k sr T).c7 1 8 1 (M.headed 1 (hxC k sr T) (dec.txV (dsH k sr T)))) 1 (hxC k sr T) (dec.txV (dsH k sr T)) = _
  rw [e]
  rfl
def stE (M : Mc) : Sp := match (M.v 1).opn with
  | true => Sp.put (M.v 1).p M.st
  | false => M.st
theorem mid_st (M : Mc) (k : Nat) (sr : Bool) (T : List Int) : (mid M k sr T).st = stE M := by
  unfold mid Mc.endM stE
  have e : ((M.headed 1 (hxC k sr T) (dec.txV (dsH k sr T))).v 1).opn = (M.v 1).opn := by show (upd M.v 1 { M.v 1 with h := hxC k sr T, t := dec.txV (dsH k sr T), bg := true } 1).opn = _; rw [upd_same]
  have e2 : ((M.headed 1 (hxC k sr T) (dec.txV (dsH k sr T))).v 1).p = (M.v 1).p := by show (upd M.v 1 { M.v 1 with h := hxC k sr T, t := dec.txV (dsH k sr T), bg := true } 1).p = _; rw [upd_same]
  rw [e]
  cases (M.v 1).opn with
  | true => show Sp.put ((M.headed 1 (hxC k sr T) (dec.txV (dsH k sr T))).v 1).p M.st = _; rw [e2]
  | false => rfl
theorem mid_opn (M : Mc) (k : Nat) (sr : Bool) (T : List Int) : ((mid M k sr T).v 1).opn = false := by
  unfold mid Mc.endM
  cases ho : ((M.headed 1 (hxC k sr T) (dec.txV (dsH k sr T))).v 1).opn with
  | true => exact congrArg Mv.opn (upd_same (M.headed 1 (hxC k sr T) (dec.txV (dsH k sr T))).v 1 (Mv.shut ((M.headed 1 (hxC k sr T) (dec.txV (dsH k sr T))).v 1)))
  | false => exact ho
theorem mid_cl {M : Mc} (k : Nat) (sr : Bool) (T : List Int) (h : Cl M) : Cl (mid M k sr T) := fun g hg => by
  unfold mid
  rw [endM_other hg]
  show (upd M.v 1 _ g).opn = false
  rw [upd_other hg]
  exact h g hg
noncomputable def pgC (m : Mv) (h : Hx) (t : List Int) (k : Nat) (T : List Int) : Pg := rowP (dfP m (pge.newQ h pgZ t)) (Int.ofNat (k + 1)) (odV T 40)
def Q (k : Nat) (p : Pg) : Prop := kyP p = (1, plP (Int.ofNat k), 0) ∧ ((p.th.getD (k + 1) []).getD 0 (.i 0)).t = true ∧ ((p.th.getD (k + 2) []).getD 0 (.i 0)).t = false
theorem opP_new {x : Sp} {h : Hx} {t : List Int} (hc : h.c0 = true) : opP x h t = pge.newQ h pgZ t := by
  unfold opP pge.newP
  rw [hc]
  cases (x.get (h.mg, h.pn, h.sb)).2 <;> rfl
theorem dfP_th (m : Mv) (p : Pg) : (dfP m p).th = p.th ∧ kyP (dfP m p) = kyP p := by
  unfold dfP
  split <;> exact ⟨rfl, rfl⟩
theorem row_th (p : Pg) {k : Nat} (hk : k < 8) (ds : List Int) : (rowP p (Int.ofNat (k + 1)) ds).th = p.th.set (k + 1) [.b true] ∧ kyP (rowP p (Int.ofNat (k + 1)) ds) = kyP p := by
  unfold rowP
  have e1 : decide (Int.ofNat (k + 1) < 1) = false := decide_eq_false (by show ¬ ((k + 1 : Nat) : Int) < 1; omega)
  have e2 : decide (Int.ofNat (k + 1) > 24) = false := decide_eq_false (by show ¬ ((k + 1 : Nat) : Int) > 24; omega)
  rw [e1, e2]
  exact ⟨rfl, rfl⟩
theorem th_all : ∀ k < 8, ((((pgZ.th.set 0 [.b true]).set (k + 1) [.b true]).getD (k + 1) []).getD 0 (.i 0)).t = true ∧ ((((pgZ.th.set 0 [.b true]).set (k + 1) [.b true]).getD (k + 2) []).getD 0 (.i 0)).t = false := by decide
theorem pgC_Q (m : Mv) (sr : Bool) (T : List Int) {k : Nat} (hk : k < 8) (t : List Int) : Q k (pgC m (hxC k sr T) t k T) := by
  obtain ⟨-, -, h5⟩ := ph T sr k hk
  have a1 := congrArg (fun x => x.1) h5
  have a2 := congrArg (fun x => x.2.1) h5
  have a3 := congrArg (fun x => x.2.2.1) h5
  have b1 : (hxC k sr T).mg = 1 := a1
  have b2 : (hxC k sr T).pn = plP (Int.ofNat k) := a2
  have b3 : (hxC k sr T).sb = 0 := a3
  obtain ⟨r1, r2⟩ := row_th (dfP m (pge.newQ (hxC k sr T) pgZ t)) hk (odV T 40)
  obtain ⟨d1, d2⟩ := dfP_th m (pge.newQ (hxC k sr T) pgZ t)
  have q := th_all k hk
  unfold Q pgC
  rw [r1, r2, d1, d2]
  refine ⟨?_, q.1, q.2⟩
  show ((hxC k sr T).mg, (hxC k sr T).pn, (hxC k sr T).sb) = _
  rw [b1, b2, b3]
end Go.Proofs.YtdhhjgplnmpjcaaGreatDoor.ca
namespace Go.Proofs.YtdhhjgplnmpjcaaGreatDoor.ca
open Go.Proofs.YtdhhjgplnmpjcaaGreatDoor.sto
open Go.Proofs.YtdhhjgplnmpjcaaGreatDoor.ac (Pg pgZ)
open Go Go.Nx Go.Proofs.YtdhhjgplnmpjcaaGreatDoor.mac Go.Proofs.YtdhhjgplnmpjcaaGreatDoor.bm Go.Proofs.YtdhhjgplnmpjcaaGreatDoor.df
def kyN (k : Nat) : Ky := (1, plP (Int.ofNat k), 0)
theorem ky_all : ∀ j < 8, ∀ k < 8, kyEq (kyN j) (kyN k) = Nat.beq j k := by decide +kernel
def Rl : List Nat → List Pg → Prop
  | [], [] => True
  | k :: T, p :: L => (Q k p ∧ k < 8) ∧ Rl T L
  | _, _ => False
theorem Q_ky {k : Nat} {p : Pg} (h : Q k p) : kyP p = kyN k := h.1
def nb (k j : Nat) : Bool := !Nat.beq j k
theorem rl_filter {k : Nat} (hk : k < 8) : ∀ {T : List Nat} {L : List Pg}, Rl T L → Rl (T.filter (nb k)) (L.filter (nk (kyN k)))
  | [], [], _ => trivial
  | [], _ :: _, h => h.elim
  | _ :: _, [], h => h.elim
  | j :: T, p :: L, h => by
    have ih := rl_filter hk h.2
    have e : nk (kyN k) p = nb k j := by unfold nk nb; rw [Q_ky h.1.1, ky_all j h.1.2 k hk]
    rw [List.filter_cons, List.filter_cons, e]
    cases nb k j with
    | true => exact ⟨h.1, ih⟩
    | false => exact ih
theorem rl_snoc {k : Nat} {p : Pg} (hk : k < 8) (hq : Q k p) : ∀ {T : List Nat} {L : List Pg}, Rl T L → Rl (T ++ [k]) (L ++ [p])
  | [], [], _ => ⟨⟨hq, hk⟩, trivial⟩
  | [], _ :: _, h => h.elim
  | _ :: _, [], h => h.elim
  | _ :: _, _ :: _, h => ⟨h.1, rl_snoc hk hq h.2⟩
theorem rl_len : ∀ {T : List Nat} {L : List Pg}, Rl T L → T.length = L.length
  | [], [], _ => rfl
  | [], _ :: _, h => h.elim
  | _ :: _, [], h => h.elim
  | _ :: _, _ :: _, h => congrArg (· + 1) (rl_len h.2)
theorem rl_tail : ∀ {T : List Nat} {L : List Pg}, Rl T L → Rl T.tail L.tail
  | [], [], _ => trivial
  | [], _ :: _, h => h.elim
  | _ :: _, [], h => h.elim
  | _ :: _, _ :: _, h => h.2
def trimS (most : Int) (S : List Nat) : List Nat := match decide ((S.length : Int) ≤ most) with
  | true => S
  | false => S.tail
def pushS (most : Int) (S : List Nat) (k : Nat) : List Nat := trimS most (S.filter (nb k) ++ [k])
theorem put_rl {x : Sp} {T : List Nat} {k : Nat} {p : Pg} (hk : k < 8) (hq : Q k p) (h : Rl T x.L) (hn : (x.L.map kyP).Nodup) (hm : 1 ≤ x.most) (hp : x.pd = false) : Rl (pushS x.most T k) (x.put p).L := by
  have hky := Q_ky hq
  have h1 : Rl (T.filter (nb k) ++ [k]) (((x.drop (kyP p)).push p).L) := by
    rw [hky]
    exact rl_snoc hk hq (rl_filter hk h)
  have hl := rl_len h1
  have hnd := push_nodup (drop_nodup (kyP p) hn) (drop_not (x := x) (kyP p))
  have hmem : ∀ q ∈ (x.drop (kyP p)).L, kyEq (kyP q) (kyP p) = false := fun q hq' => by
    have := (List.mem_filter.1 hq').2
    unfold nk at this
    simpa using this
  unfold pushS trimS Sp.put
  rw [hl]
  by_cases hc : (((x.drop (kyP p)).push p).L.length : Int) ≤ x.most
  · rw [decide_eq_true hc]
    exact h1
  · rw [decide_eq_false hc]
    have e2 : ((x.drop (kyP p)).push p).L = (x.drop (kyP p)).L ++ [p] := rfl
    cases hd : (x.drop (kyP p)).L with
    | nil =>
      exfalso
      rw [e2, hd] at hc
      have : (([p] : List Pg).length : Int) = 1 := rfl
      exact hc (by show (([] ++ [p] : List Pg).length : Int) ≤ x.most; rw [List.nil_append, this]; exact hm)
    | cons q L' =>
      have eL : ((x.drop (kyP p)).push p).L = q :: (L' ++ [p]) := by rw [e2, hd]; rfl
      have hqk : kyEq (kyP q) (kyP p) = false := hmem q (by rw [hd]; exact List.mem_cons_self ..)
      have hv : ((x.drop (kyP p)).push p).vic (kyP p) = kyP q := by
        unfold Sp.vic
        rw [eL, List.map_cons]
        refine vic_yes ?_
        unfold goesK
        show (!kyEq (kyP q) (kyP p) && !(x.pd && _)) = true
        rw [hqk, hp]
        rfl
      have hfar : kyP q ∉ (L' ++ [p]).map kyP := by
        rw [eL, List.map_cons, List.nodup_cons] at hnd
        exact hnd.1
      have e3 : (((x.drop (kyP p)).push p).drop (((x.drop (kyP p)).push p).vic (kyP p))).L = L' ++ [p] := by
        show ((x.drop (kyP p)).push p).L.filter (nk (((x.drop (kyP p)).push p).vic (kyP p))) = _
        rw [hv, eL, List.filter_cons_of_neg (by unfold nk; rw [kyEq_iff.2 rfl]; decide), filter_far hfar]
      show Rl (T.filter (nb k) ++ [k]).tail (((x.drop (kyP p)).push p).drop (((x.drop (kyP p)).push p).vic (kyP p))).L
      rw [e3]
      have h2 := rl_tail h1
      rw [eL] at h2
      exact h2
theorem put_most (x : Sp) (p : Pg) : (x.put p).most = x.most ∧ (x.put p).pd = x.pd := by
  unfold Sp.put
  split <;> exact ⟨rfl, rfl⟩
end Go.Proofs.YtdhhjgplnmpjcaaGreatDoor.ca
namespace Go.Proofs.YtdhhjgplnmpjcaaGreatDoor.ca
open Go.Proofs.YtdhhjgplnmpjcaaGreatDoor.sto
open Go.Proofs.YtdhhjgplnmpjcaaGreatDoor.ac (Pg pgZ)
open Go.Proofs.YtdhhjgplnmpjcaaGreatDoor.dec
open Go.Proofs.YtdhhjgplnmpjcaaGreatDoor.pge (Hx rowP)
open Go Go.Nx Go.Proofs.YtdhhjgplnmpjcaaGreatDoor.mac Go.Proofs.YtdhhjgplnmpjcaaGreatDoor.bm Go.Proofs.YtdhhjgplnmpjcaaGreatDoor.df
structure Inv (most : Int) (S : List Nat) (M : Mc) : Prop where
  good : M.good
  cl : Cl M
  mst : M.st.most = most
  pd : M.st.pd = false
  rel : ∃ T, Rl T M.st.L ∧ (((M.v 1).opn = false ∧ S = T) ∨ ∃ k, k < 8 ∧ (M.v 1).opn = true ∧ Q k (M.v 1).p ∧ S = pushS most T k)
theorem stE_rl {most : Int} {S : List Nat} {M : Mc} (h : Inv most S M) : Rl S (stE M).L ∧ (stE M).most = most ∧ (stE M).pd = false := by
  obtain ⟨T, hT, ⟨ho, hs⟩ | ⟨k, hk, ho, hq, hs⟩⟩ := h.rel
  · unfold stE
    rw [ho]
    exact ⟨hs ▸ hT, h.mst, h.pd⟩
  · unfold stE
    rw [ho]
    have hp := put_rl hk hq hT h.good.nd h.good.m1 h.pd
    rw [h.mst] at hp
    exact ⟨by rw [hs]; exact hp, (put_most _ _).1.trans h.mst, (put_most _ _).2.trans h.pd⟩
def sentS (most : Int) (S : List Nat) (k : Nat) : List Nat := match Nat.beq k 5 with
  | true => S
  | false => pushS most S k
theorem pn_all : ∀ k < 8, (plP (Int.ofNat k) == 255) = Nat.beq k 5 := by decide +kernel
theorem open_eq {M2 : Mc} {k : Nat} {sr : Bool} {T : List Int} (hk : k < 8) : Mc.open' M2 1 (hxC k sr T) (txV (dsH k sr T)) = match Nat.beq k 5 with
    | true => M2
    | false => M2.set 1 (dfP (M2.v 1) (pge.newQ (hxC k sr T) pgZ (txV (dsH k sr T)))) := by
  obtain ⟨-, -, h5⟩ := ph T sr k hk
  have b2 : (hxC k sr T).pn = plP (Int.ofNat k) := congrArg (fun x => x.2.1) h5
  have b4 : (hxC k sr T).c0 = true := congrArg (fun x => x.2.2.2.1) h5
  unfold Mc.open'
  rw [b2, pn_all k hk, opP_new b4]
  cases Nat.beq k 5 <;> rfl
theorem wv_same (M : Mc) (m : Mv) : (M.withV 1 m).v 1 = m := upd_same M.v 1 m
theorem wv_other {M : Mc} {m : Mv} {g : Nat} (h : g ≠ 1) : (M.withV 1 m).v g = M.v g := upd_other h
theorem set_other {M : Mc} {p : Pg} {g : Nat} (h : g ≠ 1) : (M.set 1 p).v g = M.v g := upd_other h
theorem inv_two {most : Int} {S : List Nat} {M : Mc} (h : Inv most S M) (T : List Int) (sr : Bool) {k : Nat} (hk : k < 8) : Inv most (sentS most S k) ((M.step (byV (hdC k sr T))).1.step (byV (rwC k T))).1 := by
  obtain ⟨r1, r2, r3⟩ := stE_rl h
  have hg := step_good (step_good h.good (byV_in (hdC k sr T))) (byV_in (rwC k T))
  have e : (M.step (byV (hdC k sr T))).1 = match Nat.beq k 5 with
      | true => mid M k sr T
      | false => (mid M k sr T).set 1 (dfP ((mid M k sr T).v 1) (pge.newQ (hxC k sr T) pgZ (txV (dsH k sr T)))) := by
    rw [step_hd M T sr hk]
    show M.hdM 1 (dsH k sr T) = _
    rw [hdM_eq T sr k h.cl, open_eq hk]
  rw [e] at hg ⊢
  have es := mid_st M k sr T
  have ec := mid_cl k sr T h.cl
  unfold sentS
  cases h5 : Nat.beq k 5 with
  | true =>
    rw [h5] at hg
    have e2 : ((mid M k sr T).step (byV (rwC k T))).1 = mid M k sr T := by
      rw [step_rw _ T hk]
      show (mid M k sr T).insM 1 _ = _
      unfold Mc.insM
      rw [mid_opn]
    have hg : ((mid M k sr T).step (byV (rwC k T))).1.good := hg
    show Inv most S ((mid M k sr T).step (byV (rwC k T))).1
    rw [e2] at hg ⊢
    exact ⟨hg, ec, by rw [es]; exact r2, by rw [es]; exact r3, ⟨S, by rw [es]; exact r1, .inl ⟨mid_opn M k sr T, rfl⟩⟩⟩
  | false =>
    rw [h5] at hg
    have hg : (((mid M k sr T).set 1 (dfP ((mid M k sr T).v 1) (pge.newQ (hxC k sr T) pgZ (txV (dsH k sr T))))).step (byV (rwC k T))).1.good := hg
    show Inv most (pushS most S k) (((mid M k sr T).set 1 (dfP ((mid M k sr T).v 1) (pge.newQ (hxC k sr T) pgZ (txV (dsH k sr T))))).step (byV (rwC k T))).1
    rw [step_rw _ T hk] at hg ⊢
    generalize hB : dfP ((mid M k sr T).v 1) (pge.newQ (hxC k sr T) pgZ (txV (dsH k sr T))) = B at *
    have ev : (((mid M k sr T).set 1 B).v 1) = { (mid M k sr T).v 1 with opn := true, p := B } := by
      show upd (mid M k sr T).v 1 { (mid M k sr T).v 1 with opn := true, p := B } 1 = _
      exact upd_same (mid M k sr T).v 1 { (mid M k sr T).v 1 with opn := true, p := B }
    have e3 : ((mid M k sr T).set 1 B).insM 1 ⟨1, Int.ofNat (k + 1), 2, 0, odV T 40⟩ = ((mid M k sr T).set 1 B).withV 1 ((((mid M k sr T).set 1 B).v 1).part ⟨1, Int.ofNat (k + 1), 2, 0, odV T 40⟩) := by
      unfold Mc.insM
      rw [ev]
    have e4 : ((((mid M k sr T).set 1 B).v 1).part ⟨1, Int.ofNat (k + 1), 2, 0, odV T 40⟩) = (((mid M k sr T).set 1 B).v 1).with (rowP (((mid M k sr T).set 1 B).v 1).p (Int.ofNat (k + 1)) (odV T 40)) := rfl
    have hg : (((mid M k sr T).set 1 B).insM 1 ⟨1, Int.ofNat (k + 1), 2, 0, odV T 40⟩).good := hg
    show Inv most (pushS most S k) (((mid M k sr T).set 1 B).insM 1 ⟨1, Int.ofNat (k + 1), 2, 0, odV T 40⟩)
    rw [e3, e4, ev] at hg ⊢
    have hq := pgC_Q ((mid M k sr T).v 1) sr T hk (txV (dsH k sr T))
    unfold pgC at hq
    rw [hB] at hq
    refine ⟨hg, fun g hgg => ?_, by show (mid M k sr T).st.most = most; rw [es]; exact r2, by show (mid M k sr T).st.pd = false; rw [es]; exact r3, ⟨S, by show Rl S (mid M k sr T).st.L; rw [es]; exact r1, .inr ⟨k, hk, ?_, ?_, rfl⟩⟩⟩
    · rw [wv_other hgg, set_other hgg]
      exact ec g hgg
    · rw [wv_same]
      rfl
    · rw [wv_same]
      exact hq
end Go.Proofs.YtdhhjgplnmpjcaaGreatDoor.ca
namespace Go.Proofs.YtdhhjgplnmpjcaaGreatDoor.mac
end Go.Proofs.YtdhhjgplnmpjcaaGreatDoor.mac
namespace Go.Proofs.YtdhhjgplnmpjcaaGreatDoor.pl
open Go.Proofs.YtdhhjgplnmpjcaaGreatDoor.sto (sT sF Ky)
open Go.Proofs.YtdhhjgplnmpjcaaGreatDoor.ac (Pg)
open Go Go.Nx Go.Proofs.YtdhhjgplnmpjcaaGreatDoor.pk Go.Proofs.YtdhhjgplnmpjcaaGreatDoor.mac Go.Proofs.YtdhhjgplnmpjcaaGreatDoor.bm Go.Proofs.YtdhhjgplnmpjcaaGreatDoor.df
def hdT (m a n : Int) (T : List Int) : Dv := ⟨1, m, a, 0, n, [], T, [], []⟩
def rwT (m n : Int) (T : List Int) : Dv := ⟨2, m, 0, 0, n, [], T, [], []⟩
def flg : Bool → Int
  | true => 128
  | false => 0
def thAt (p : Pg) (n : Nat) : Bool := ((p.th.getD n []).getD 0 (.i 0)).t
noncomputable def oBl (b : Bool) : Out := ⟨.v (.c (.b b)), []⟩
noncomputable def fin (b : Int) (y : Pg × Bool) (two : Ky × Bool) (R : Out → Prop) : Bool → Prop
  | true => sel (thAt y.1 4) (R (oBl (!thAt y.1 3))) (R (oBl false))
  | false => plA ⟨1, 1, b, 0, 0, [], [], [], []⟩ ∧ ((two.1.1 = 1 % 3 + 1 ∧ two.1.2.1 = plP b ∧ two.1.2.2 = plS 0) ∧ R (oBl true))
def ptr (x : NV) : Prop := [NV.c (.p 0 0 0), x] = [NV.c (.p 0 0 0), x]
end Go.Proofs.YtdhhjgplnmpjcaaGreatDoor.pl
namespace Go.Proofs.YtdhhjgplnmpjcaaGreatDoor.ca
open Go.Proofs.YtdhhjgplnmpjcaaGreatDoor.sto (sT sF)
open Go Go.Nx Go.Proofs.YtdhhjgplnmpjcaaGreatDoor.pk Go.Proofs.YtdhhjgplnmpjcaaGreatDoor.mac Go.Proofs.YtdhhjgplnmpjcaaGreatDoor.bm Go.Proofs.YtdhhjgplnmpjcaaGreatDoor.df
def argT (ls : List (Nat × Nat × Nat × NC)) (T : Con) : Con := fun args regs => T (mapVs (nilOf ls) 0 args) regs
theorem Known_args {P : Program} {gl : List Nat} {f : FuncId} {T : Con} (h : Known P gl f T) (ls : List (Nat × Nat × Nat × NC)) : Known P gl f (argT ls T) :=
  ⟨h.goes, fun args regs R hr Γ w vs hw hg ha ho => h.sound (mapVs (nilOf ls) 0 args) regs R hr Γ w vs hw hg (mapVs_soft args vs 0 (fun i j k y _ => nilOf_soft Γ ls i j k y) ha) ho⟩
noncomputable def tByN : Con := argT [(0, 0, 5, .l .i64 []), (0, 0, 6, .l .u8 []), (0, 0, 7, .l .u8 []), (0, 0, 8, .l .i64 [])] tBy
theorem kByN : Known Tryz.prog GL 13 tByN := Known_args kBy _
noncomputable abbrev f_ca := Tryz.f4
noncomputable def c_ca : FuncId → Option Con := conOf [(8, tF14), (9, num.tNumV), (11, tNewM), (13, tByN), (12, tPkN), (21, tPl), (19, tFd), (17, tPgs), (22, hd.tSamePT)]
theorem kc_ca : ∀ f T, c_ca f = some T → Known Tryz.prog GL f T := (Knowns.cons kF14 (.cons (known_gl num.kNumV) (.cons kNewM (.cons kByN (.cons kPkN (.cons kPl (.cons kFd (.cons kPgs (.cons hd.kSamePT .nil))))))))).get
noncomputable def X_ca : Cx := { P := Tryz.prog, con := c_ca, glob := GL, m := 0, loops := [] }
def arI (xs : List Int) : Reg := ⟨1, 3, .ints .i64 xs⟩
structure Rw where
  o : Nat
  n : Nat
  xs : List Int
noncomputable def seC : Option Rw → NC
  | none => .sn
  | some w => .h 4 w.o w.n
noncomputable def neC (r : Nat) : Option (List Int × Nat) → NC
  | none => .sn
  | some x => .h r 0 x.2
noncomputable def seR : Option Rw → List (Option Reg)
  | none => []
  | some w => [some (arI w.xs)]
noncomputable def neR : Option (List Int × Nat) → List (Option Reg)
  | none => []
  | some x => [some (arI x.1)]
structure Fx where
  mo : Int
  P : List Int
  sr : Bool
  T : List Int
  M : Mc
  i : Int
  k : Int
noncomputable def sIn (f : Fx) (se : Option Rw) (ne : Option (List Int × Nat)) (j : Int) : St := { fr := frame 179 [(0, .v (.c (.i .i64 f.mo))), (1, .v (.c (.l .i64 f.P))), (2, .v (.c (.b f.sr))), (3, .v (.c (.l .u8 f.T))), (9, .v (.c (.b true))), (10, .v (.c (.p 0 0 0))), (12, .v (.c (seC se))), (13, .v (.c (.i .i64 f.i))), (14, .v (.c (.i .i64 f.k))), (18, .v (.c (neC 5 ne))), (19, .v (.c (.i .i64 j)))], rg := (inM f.M).map some ++ seR se ++ neR ne }
noncomputable def rIn (s : St) : Tr RO := roundT X_ca 2 [0, 1, 2, 3, 9, 10, 12, 13, 14, 18, 19] [0, 1, 2, 3, 9, 10, 13, 14, 18] (bodyLoop f_ca 2) s
noncomputable def dIn (f : Fx) (ne : Option (List Int × Nat)) : St := { fr := frame 179 [(0, .v (.c (.i .i64 f.mo))), (1, .v (.c (.l .i64 f.P))), (2, .v (.c (.b f.sr))), (3, .v (.c (.l .u8 f.T))), (9, .v (.c (.b true))), (10, .v (.c (.p 0 0 0))), (13, .v (.c (.i .i64 f.i))), (14, .v (.c (.i .i64 f.k))), (18, .v (.c (neC 4 ne)))], rg := (inM f.M).map some ++ neR ne }
def ixW (w : Rw) (j : Int) (A : Prop) : Prop := sel (decide (0 ≤ j)) (sel (decide (j < (w.n : Int))) (sel (decide (w.o + j.toNat < w.xs.length)) A False) False) False
def atW (w : Rw) (j : Int) : Int := w.xs.getD (w.o + j.toNat) 0
def apI (m : Nat) (A : Prop) : Prop := sel (decide (0 + m ≤ m)) (sel (decide ((m + 1) * bytesT Tryz.prog 3 ≤ 140737488355328)) (sel (decide (m + 1 ≤ 9223372036854775807)) A False) False) False
noncomputable def nxI (f : Fx) (w : Rw) (j : Int) (R : RO → Prop) (ne : Option (List Int × Nat)) : Prop := R (.next (sIn f (some w) ne (IntKind.i64.wrap (j + 1))))
theorem in_nn (f : Fx) (j : Int) (R : RO → Prop) : (rIn (sIn f none none j)).run R = sel (decide (j < 0)) False (R (.done .normal (dIn f none))) := by kernel_rfl
theorem in_hn (f : Fx) (w : Rw) (j : Int) (R : RO → Prop) : (rIn (sIn f (some w) none j)).run R =
    sel (decide (j < (w.n : Int))) (ixW w j (sel (atW w j != f.k) (ixW w j (nxI f w j R (some ([atW w j], 1)))) (nxI f w j R none))) (R (.done .normal (dIn f none))) := by kernel_rfl
theorem in_hh (f : Fx) (w : Rw) (ys : List Int) (j : Int) (R : RO → Prop) : (rIn (sIn f (some w) (some (ys, ys.length)) j)).run R =
    sel (decide (j < (w.n : Int))) (ixW w j (sel (atW w j != f.k) (ixW w j (apI ys.length (nxI f w j R (some (List.take ys.length ys ++ [atW w j], ys.length + 1))))) (nxI f w j R (some (ys, ys.length))))) (R (.done .normal (dIn f (some (ys, ys.length))))) := by kernel_rfl
def vw (w : Rw) : List Int := (w.xs.drop w.o).take w.n
def Rw.ok (w : Rw) : Prop := w.o + w.n ≤ w.xs.length ∧ w.n ≤ 1000
def vwO : Option Rw → List Int
  | none => []
  | some w => vw w
def okO : Option Rw → Prop
  | none => True
  | some w => w.ok
def flt (k : Int) (l : List Int) : List Int := l.filter fun x => x != k
def neO : List Int → Option (List Int × Nat)
  | [] => none
  | x :: l => some (x :: l, (x :: l).length)
theorem vw_len {w : Rw} (h : w.ok) : (vw w).length = w.n := by
  unfold vw
  rw [List.length_take, List.length_drop]
  have := h.1
  omega
theorem vw_at {w : Rw} (h : w.ok) {j : Nat} (hj : j < (vw w).length) : (vw w)[j] = atW w (j : Int) := by
  have hl := vw_len h
  have h1 := h.1
  have e : (vw w)[j]? = w.xs[w.o + j]? := by
    unfold vw
    rw [List.getElem?_take_of_lt (by omega), List.getElem?_drop]
  rw [List.getElem?_eq_getElem hj] at e
  unfold atW
  rw [List.getD_eq_getElem?_getD]
  show _ = (w.xs[w.o + j]?).getD 0
  rw [← e]
  rfl
theorem bytesI : bytesT Tryz.prog 3 = 8 := by kernel_rfl
theorem apI_in {m : Nat} {A : Prop} (hm : m ≤ 2000) (h : A) : apI m A := by
  unfold apI
  rw [bytesI]
  exact sT (decide_eq_true (by omega)) (sT (decide_eq_true (by omega)) (sT (decide_eq_true (by omega)) h))
theorem ixW_in {w : Rw} {j : Int} {A : Prop} (h : w.ok) (h0 : 0 ≤ j) (h1 : j < (w.n : Int)) (hA : A) : ixW w j A := sT (decide_eq_true h0) (sT (decide_eq_true h1) (sT (decide_eq_true (by have := h.1; omega)) hA))
structure AIn where
  f : Fx
  se : Option Rw
  ys : List Int
  j : Nat
noncomputable def hIn (a : AIn) : St := sIn a.f a.se (neO a.ys) (a.j : Int)
def preIn (a : AIn) (R : NExit × St → Prop) : Prop := okO a.se ∧ a.j ≤ (vwO a.se).length ∧ a.ys.length ≤ a.j ∧ R (.normal, dIn a.f (neO (a.ys ++ flt a.f.k ((vwO a.se).drop a.j))))
def nxtIn (a : AIn) (R : NExit × St → Prop) (o : RO) : Prop := match o with
  | .next s => ∃ y, s = hIn y ∧ (vwO y.se).length - y.j < (vwO a.se).length - a.j ∧ preIn y R
  | .done e s => R (e, s)
theorem in_in (a : AIn) (R : NExit × St → Prop) (h : preIn a R) : Box ((rIn (hIn a)).run (nxtIn a R)) := by
  obtain ⟨f, se, ys, j⟩ := a
  obtain ⟨hw, hj, hy, hR⟩ := h
  simp only at hw hj hy hR
  cases se with
  | none =>
    have hj0 : j = 0 := by simpa [vwO] using hj
    subst hj0
    have hy0 : ys = [] := List.length_eq_zero_iff.1 (by omega)
    subst hy0
    refine Box.of_eq (in_nn f _ _) (sF (decide_eq_false (by show ¬ (((0 : Nat) : Int) < 0); omega)) ?_)
    have hR : R (NExit.normal, dIn f none) := by simpa [vwO, flt, neO] using hR
    exact hR
  | some w =>
    have hok : w.ok := hw
    have hlen : (vwO (some w)).length = w.n := vw_len hok
    have hn := hok.2
    have hwr : IntKind.i64.wrap ((j : Int) + 1) = ((j + 1 : Nat) : Int) := by rw [IntKind.wrap_i64]; omega
    have nx : ∀ ys', j < w.n → ys'.length ≤ j + 1 → ys' ++ flt f.k ((vw w).drop (j + 1)) = ys ++ flt f.k ((vw w).drop j) → nxI f w (j : Int) (nxtIn ⟨f, some w, ys, j⟩ R) (neO ys') := fun ys' hjn hl he => by
      unfold nxI
      rw [hwr]
      refine ⟨⟨f, some w, ys', j + 1⟩, rfl, by simp only; omega, hok, by simp only; omega, hl, ?_⟩
      show R (.normal, dIn f (neO (ys' ++ flt f.k ((vw w).drop (j + 1)))))
      rw [he]
      exact hR
    have hd : ∀ hjn : j < w.n, flt f.k ((vw w).drop j) = flt f.k (atW w (j : Int) :: (vw w).drop (j + 1)) := fun hjn => by
      rw [List.drop_eq_getElem_cons (by rw [vw_len hok]; exact hjn), vw_at hok]
    have fin : ¬ j < w.n → R (.normal, dIn f (neO ys)) := fun hjn => by
      have : (vwO (some w)).drop j = [] := List.drop_eq_nil_iff.2 (by omega)
      rw [this] at hR
      simpa [flt] using hR
    have yes : ∀ hjn : j < w.n, (atW w (j : Int) != f.k) = true → (ys ++ [atW w (j : Int)]) ++ flt f.k ((vw w).drop (j + 1)) = ys ++ flt f.k ((vw w).drop j) := fun hjn hc => by
      rw [hd hjn, List.append_assoc]
      unfold flt
      rw [List.filter_cons_of_pos (p := fun x => x != f.k) hc]
      rfl
    have no : ∀ hjn : j < w.n, (atW w (j : Int) != f.k) = false → ys ++ flt f.k ((vw w).drop (j + 1)) = ys ++ flt f.k ((vw w).drop j) := fun hjn hc => by
      rw [hd hjn]
      unfold flt
      rw [List.filter_cons_of_neg (p := fun x => x != f.k) (by rw [hc]; decide)]
    cases ys with
    | nil =>
      refine Box.of_eq (in_hn f w (j : Int) _) ?_
      by_cases hjn : j < w.n
      · refine sT (decide_eq_true (by omega)) (ixW_in hok (by omega) (by omega) ?_)
        cases hc : (atW w (j : Int) != f.k) with
        | true => exact sT rfl (ixW_in hok (by omega) (by omega) (nx [atW w (j : Int)] hjn (by simp) (yes hjn hc)))
        | false => exact sF rfl (nx [] hjn (by simp) (no hjn hc))
      · exact sF (decide_eq_false (by omega)) (fin hjn)
    | cons y ys =>
      refine Box.of_eq (in_hh f w (y :: ys) (j : Int) _) ?_
      by_cases hjn : j < w.n
      · refine sT (decide_eq_true (by omega)) (ixW_in hok (by omega) (by omega) ?_)
        rw [List.take_length]
        cases hc : (atW w (j : Int) != f.k) with
        | true =>
          refine sT rfl (ixW_in hok (by omega) (by omega) (apI_in (by omega) ?_))
          have e : neO ((y :: ys) ++ [atW w (j : Int)]) = some ((y :: ys) ++ [atW w (j : Int)], (y :: ys).length + 1) := by
            show some ((y :: (ys ++ [atW w (j : Int)])), (y :: (ys ++ [atW w (j : Int)])).length) = _
            simp
          rw [← e]
          exact nx _ hjn (by rw [List.length_append]; exact Nat.succ_le_succ hy) (yes hjn hc)
        | false => exact sF rfl (nx (y :: ys) hjn (by omega) (no hjn hc))
      · exact sF (decide_eq_false (by omega)) (fin hjn)
end Go.Proofs.YtdhhjgplnmpjcaaGreatDoor.ca
namespace Go.Proofs.YtdhhjgplnmpjcaaGreatDoor.ca
open Go.Proofs.YtdhhjgplnmpjcaaGreatDoor.sto (sT sF)
open Go Go.Nx Go.Proofs.YtdhhjgplnmpjcaaGreatDoor.pk Go.Proofs.YtdhhjgplnmpjcaaGreatDoor.mac Go.Proofs.YtdhhjgplnmpjcaaGreatDoor.bm Go.Proofs.YtdhhjgplnmpjcaaGreatDoor.df
def rdIn (s : St) : Option (Fx × Option Rw) := match s.fr[(0 : Nat)]?, s.fr[(1 : Nat)]?, s.fr[(2 : Nat)]?, s.fr[(3 : Nat)]?, s.fr[(13 : Nat)]?, s.fr[(14 : Nat)]?, s.fr[(12 : Nat)]? with
  | some (.v (.c (.i _ mo))), some (.v (.c (.l _ P))), some (.v (.c (.b sr))), some (.v (.c (.l _ T))), some (.v (.c (.i _ i))), some (.v (.c (.i _ k))), some (.v (.c se)) =>
    (match s.rg with
     | some a :: some b :: some c :: some d :: rest => (match rdMc [a, b, c, d] with
       | some M => (match se, rest with
         | .h _ o n, some ⟨_, _, .ints _ xs⟩ :: _ => some (⟨mo, P, sr, T, M, i, k⟩, some ⟨o, n, xs⟩)
         | _, _ => some (⟨mo, P, sr, T, M, i, k⟩, none))
       | none => none)
     | _ => none)
  | _, _, _, _, _, _, _ => none
noncomputable def lIn (s : St) : Tr (NExit × St) := match rdIn s with
  | some (f, se) => .must (s = sIn f se none 0 ∧ okO se) (.br (flt f.k (vwO se)).isEmpty (.ret (.normal, dIn f none)) (.ret (.normal, dIn f (some (flt f.k (vwO se), (flt f.k (vwO se)).length)))))
  | none => .fail
theorem neO_br {f : Fx} {l : List Int} {R : NExit × St → Prop} (h : sel l.isEmpty (R (.normal, dIn f none)) (R (.normal, dIn f (some (l, l.length))))) : R (.normal, dIn f (neO l)) := by
  cases l with
  | nil => exact h
  | cons x l => exact h
set_option maxRecDepth 100000 in
theorem loop_in : LOk Tryz.prog GL 0 2 (bodyLoop f_ca 2) lIn := by
  refine loop_ok (X := X_ca) kc_ca mixed (LAll.none (by kernel_rfl)) [0, 1, 2, 3, 9, 10, 12, 13, 14, 18, 19] [0, 1, 2, 3, 9, 10, 13, 14, 18] hIn (fun a => (vwO a.se).length - a.j) preIn ?_ ?_
  · intro s R h
    unfold lIn at h
    split at h
    case h_2 => exact h.elim
    rename_i f se hx
    obtain ⟨⟨hs, hok⟩, hR⟩ := h
    refine ⟨⟨f, se, [], 0⟩, hs, hok, Nat.zero_le _, Nat.le_refl _, ?_⟩
    exact neO_br (l := flt f.k (vwO se)) hR
  · intro a R h
    exact Tr.run_mono _ (fun o ho => ho) (in_in a R h).out
noncomputable def X_cb : Cx := { P := Tryz.prog, con := c_ca, glob := GL, m := 0, loops := [(2, [0, 1, 2, 3, 9, 10, 12, 13, 14, 18, 19], lIn)] }
noncomputable def sOu (mo : Int) (P : List Int) (sr : Bool) (T : List Int) (M : Mc) (se : Option Rw) (i : Int) : St := { fr := frame 179 [(0, .v (.c (.i .i64 mo))), (1, .v (.c (.l .i64 P))), (2, .v (.c (.b sr))), (3, .v (.c (.l .u8 T))), (9, .v (.c (.b true))), (10, .v (.c (.p 0 0 0))), (12, .v (.c (seC se))), (13, .v (.c (.i .i64 i)))], rg := (inM M).map some ++ seR se }
noncomputable def dOu (mo : Int) (P : List Int) (sr : Bool) (T : List Int) (M : Mc) (se : Option Rw) : St := { fr := frame 179 [(9, .v (.c (.b true))), (10, .v (.c (.p 0 0 0))), (12, .v (.c (seC se)))], rg := (inM M).map some ++ seR se }
noncomputable def rOu (s : St) : Tr RO := roundT X_cb 0 [0, 1, 2, 3, 9, 10, 12, 13] [9, 10, 12] (bodyLoop f_ca 0) s
def kAt (P : List Int) (i : Int) : Int := P.getD i.toNat 0 % 8
def dh (sr : Bool) (k : Int) (T : List Int) : Dv := ⟨1, 0, k, 0, flC sr, [], T, [], []⟩
def dr (k : Int) (T : List Int) : Dv := ⟨2, 0, 0, 0, IntKind.i64.wrap (k + 1), [], T, [], []⟩
noncomputable def nxM (M : Mc) (d : Dv) : Mc := ((bk M).step (byV d)).1
noncomputable def pkA (M : Mc) (d : Dv) (A : Prop) : Prop :=
  ([d.nv] = [d.nv] ∧ okD d) ∧ ((inM M = inM (bk M) ∧ (bk M).ok) ∧ (([NV.c (.p 0 0 0), .c (.l .u8 (byV d))] = [NV.c (.p 0 0 0), .c (.l .u8 (byV d))] ∧ (bk M).good ∧ (∀ b ∈ byV d, 0 ≤ b ∧ b < 256) ∧ ((bk M).step (byV d)).2 = none) ∧ A))
noncomputable def tlN (mo k : Int) (nx : Option Rw → Prop) : Prop :=
  sel (k != 5) (sel (decide ((1 : Int) > mo)) (nx (some ⟨1, 0, [k]⟩)) (nx (some ⟨0, 1, [k]⟩))) (sel (decide ((0 : Int) > mo)) False (nx none))
noncomputable def tlS (mo k : Int) (l : List Int) (nx : Option Rw → Prop) : Prop :=
  sel (k != 5) (apI l.length (sel (decide (((l.length + 1 : Nat) : Int) > mo)) (sel (decide ((1 : Int) ≤ ((l.length + 1 : Nat) : Int))) (nx (some ⟨1, l.length, List.take l.length l ++ [k]⟩)) False) (nx (some ⟨0, l.length + 1, List.take l.length l ++ [k]⟩))))
    (sel (decide ((l.length : Int) > mo)) (sel (decide ((1 : Int) ≤ (l.length : Int))) (nx (some ⟨1, l.length - 1, l⟩)) False) (nx (some ⟨0, l.length, l⟩)))
noncomputable def ouT (mo : Int) (P : List Int) (sr : Bool) (T : List Int) (M : Mc) (se : Option Rw) (i : Int) (R : RO → Prop) (tl : Int → (Option Rw → Prop) → Prop) : Prop :=
  sel (decide (i < (P.length : Int))) (sel (decide (0 ≤ i)) (sel (decide (i < (P.length : Int))) (sel (decide (i.toNat < P.length)) (nmA 8 ∧
    pkA M (dh sr (kAt P i) T) (pkA (nxM M (dh sr (kAt P i) T)) (dr (kAt P i) T) (
      (sIn ⟨mo, P, sr, T, nxM (nxM M (dh sr (kAt P i) T)) (dr (kAt P i) T), i, kAt P i⟩ se none 0 = sIn ⟨mo, P, sr, T, bk (nxM (nxM M (dh sr (kAt P i) T)) (dr (kAt P i) T)), i, kAt P i⟩ se none 0 ∧ okO se) ∧
      tl (kAt P i) fun w => R (.next (sOu mo P sr T (bk (nxM (nxM M (dh sr (kAt P i) T)) (dr (kAt P i) T))) w (IntKind.i64.wrap (i + 1))))))) False) False) False) (R (.done .normal (dOu mo P sr T M se)))
theorem ou_n1 (mo : Int) (P T : List Int) (M : Mc) (i : Int) (R : RO → Prop) : (rOu (sOu mo P true T M none i)).run R = ouT mo P true T M none i R (tlN mo) := by kernel_rfl
theorem ou_n0 (mo : Int) (P T : List Int) (M : Mc) (i : Int) (R : RO → Prop) : (rOu (sOu mo P false T M none i)).run R = ouT mo P false T M none i R (tlN mo) := by kernel_rfl
theorem ou_s1 (mo : Int) (P T : List Int) (M : Mc) (w : Rw) (i : Int) (R : RO → Prop) : (rOu (sOu mo P true T M (some w) i)).run R = ouT mo P true T M (some w) i R (fun k nx => sel (flt k (vw w)).isEmpty (tlN mo k nx) (tlS mo k (flt k (vw w)) nx)) := by kernel_rfl
theorem ou_s0 (mo : Int) (P T : List Int) (M : Mc) (w : Rw) (i : Int) (R : RO → Prop) : (rOu (sOu mo P false T M (some w) i)).run R = ouT mo P false T M (some w) i R (fun k nx => sel (flt k (vw w)).isEmpty (tlN mo k nx) (tlS mo k (flt k (vw w)) nx)) := by kernel_rfl
end Go.Proofs.YtdhhjgplnmpjcaaGreatDoor.ca
namespace Go.Proofs.YtdhhjgplnmpjcaaGreatDoor.ca
open Go.Proofs.YtdhhjgplnmpjcaaGreatDoor.sto (sT sF)
open Go Go.Nx Go.Proofs.YtdhhjgplnmpjcaaGreatDoor.pk Go.Proofs.YtdhhjgplnmpjcaaGreatDoor.mac Go.Proofs.YtdhhjgplnmpjcaaGreatDoor.bm Go.Proofs.YtdhhjgplnmpjcaaGreatDoor.df
def inN (S : List Nat) : List Int := S.map Int.ofNat
def rwT (mo : Int) (n : Nat) (xs : List Int) : Rw := match decide ((n : Int) > mo) with
  | true => ⟨1, n - 1, xs⟩
  | false => ⟨0, n, xs⟩
def tlV (mo k : Int) (l : List Int) : Option Rw := match l, k != 5 with
  | [], true => some (rwT mo 1 [k])
  | [], false => none
  | x :: l, true => some (rwT mo ((x :: l).length + 1) ((x :: l) ++ [k]))
  | x :: l, false => some (rwT mo (x :: l).length (x :: l))
theorem rwT_vw {xs : List Int} {mo : Int} {n : Nat} (hn : xs.length = n) : vw (rwT mo n xs) = match decide ((n : Int) ≤ mo) with | true => xs | false => xs.tail := by
  unfold rwT
  by_cases h : (n : Int) > mo
  · rw [decide_eq_true h, decide_eq_false (show ¬ (n : Int) ≤ mo by omega)]
    show (xs.drop 1).take (n - 1) = xs.tail
    rw [List.drop_one, List.take_of_length_le (by rw [List.length_tail]; omega)]
  · rw [decide_eq_false h, decide_eq_true (show (n : Int) ≤ mo by omega)]
    show (xs.drop 0).take n = xs
    rw [List.drop_zero, List.take_of_length_le (by omega)]
theorem rwT_ok {xs : List Int} {mo : Int} {n : Nat} (hn : xs.length = n) (h1 : 1 ≤ n) (h2 : n ≤ 1000) : (rwT mo n xs).ok := by
  unfold rwT
  cases decide ((n : Int) > mo) with
  | true => exact ⟨by show 1 + (n - 1) ≤ xs.length; omega, by show n - 1 ≤ 1000; omega⟩
  | false => exact ⟨by show 0 + n ≤ xs.length; omega, h2⟩
def trimI (mo : Int) (l : List Int) : List Int := match decide ((l.length : Int) ≤ mo) with
  | true => l
  | false => l.tail
theorem tlV_vw (mo k : Int) (l : List Int) : vwO (tlV mo k l) = match k != 5 with | true => trimI mo (l ++ [k]) | false => trimI mo l := by
  cases l with
  | nil =>
    unfold tlV
    cases hk : (k != 5) with
    | true => exact rwT_vw rfl
    | false =>
      show [] = trimI mo []
      unfold trimI
      cases decide ((([] : List Int).length : Int) ≤ mo) <;> rfl
  | cons x l =>
    unfold tlV
    cases hk : (k != 5) with
    | true =>
      have hl : ((x :: l) ++ [k]).length = (x :: l).length + 1 := by rw [List.length_append]; rfl
      show vw (rwT mo ((x :: l).length + 1) ((x :: l) ++ [k])) = trimI mo ((x :: l) ++ [k])
      unfold trimI
      rw [rwT_vw hl, hl]
    | false => exact rwT_vw rfl
theorem tlV_ok (mo k : Int) (l : List Int) (hl : l.length ≤ 900) : okO (tlV mo k l) := by
  cases l with
  | nil =>
    unfold tlV
    cases (k != 5) with
    | true => exact rwT_ok rfl (by omega) (by omega)
    | false => trivial
  | cons x l =>
    have h : (x :: l).length ≤ 900 := hl
    have h1 : 1 ≤ (x :: l).length := Nat.succ_le_succ (Nat.zero_le _)
    unfold tlV
    cases (k != 5) with
    | true => exact rwT_ok (by rw [List.length_append]; rfl) (by omega) (by omega)
    | false => exact rwT_ok rfl h1 (by omega)
theorem flt_in (k : Nat) : ∀ S : List Nat, flt (Int.ofNat k) (inN S) = inN (S.filter (nb k))
  | [] => rfl
  | j :: S => by
    have ih := flt_in k S
    unfold flt inN at *
    rw [List.map_cons, List.filter_cons, List.filter_cons]
    have e : ((Int.ofNat j != Int.ofNat k) : Bool) = nb k j := by
      unfold nb
      cases h : Nat.beq j k with
      | true => rw [Nat.eq_of_beq_eq_true h]; simp
      | false =>
        have := Nat.ne_of_beq_eq_false h
        simp only [Bool.not_false, bne_iff_ne]
        intro hc
        exact this (Int.ofNat.inj hc)
    rw [e]
    cases nb k j with
    | true => rw [if_pos rfl, if_pos rfl, List.map_cons, ih]
    | false => rw [if_neg (by decide), if_neg (by decide), ih]
theorem trim_in (mo : Int) (S : List Nat) : trimI mo (inN S) = inN (trimS mo S) := by
  unfold trimI trimS inN
  rw [List.length_map]
  cases decide ((S.length : Int) ≤ mo) with
  | true => rfl
  | false => show (S.map Int.ofNat).tail = S.tail.map Int.ofNat; rw [List.map_tail]
end Go.Proofs.YtdhhjgplnmpjcaaGreatDoor.ca
namespace Go.Proofs.YtdhhjgplnmpjcaaGreatDoor.ca
open Go.Proofs.YtdhhjgplnmpjcaaGreatDoor.sto (sT sF)
open Go Go.Nx Go.Proofs.YtdhhjgplnmpjcaaGreatDoor.pk Go.Proofs.YtdhhjgplnmpjcaaGreatDoor.mac Go.Proofs.YtdhhjgplnmpjcaaGreatDoor.bm Go.Proofs.YtdhhjgplnmpjcaaGreatDoor.df
theorem tlN_in {mo k : Int} {nx : Option Rw → Prop} (hm : 1 ≤ mo) (h : nx (tlV mo k [])) : tlN mo k nx := by
  unfold tlN
  unfold tlV at h
  cases hk : (k != 5) with
  | true =>
    rw [hk] at h
    have h : nx (some (rwT mo 1 [k])) := h
    unfold rwT at h
    refine sT rfl ?_
    have e : decide (((1 : Nat) : Int) > mo) = decide ((1 : Int) > mo) := rfl
    rw [e] at h
    cases hd : decide ((1 : Int) > mo) with
    | true => rw [hd] at h; exact sT rfl h
    | false => rw [hd] at h; exact sF rfl h
  | false =>
    rw [hk] at h
    exact sF rfl (sF (decide_eq_false (by omega)) h)
theorem tlS_in {mo k : Int} {l : List Int} {nx : Option Rw → Prop} (hl : l.isEmpty = false) (hl2 : l.length ≤ 900) (h : nx (tlV mo k l)) : tlS mo k l nx := by
  unfold tlS
  rw [List.take_length]
  cases l with
  | nil => cases hl
  | cons x l =>
    have h1 : 1 ≤ (x :: l).length := Nat.succ_le_succ (Nat.zero_le _)
    have hl2 : (x :: l).length ≤ 900 := hl2
    unfold tlV at h
    cases hk : (k != 5) with
    | true =>
      rw [hk] at h
      have h : nx (some (rwT mo ((x :: l).length + 1) ((x :: l) ++ [k]))) := h
      unfold rwT at h
      refine sT rfl (apI_in (by omega) ?_)
      cases hd : decide ((((x :: l).length + 1 : Nat) : Int) > mo) with
      | true => rw [hd] at h; exact sT rfl (sT (decide_eq_true (by omega)) h)
      | false => rw [hd] at h; exact sF rfl h
    | false =>
      rw [hk] at h
      have h : nx (some (rwT mo (x :: l).length (x :: l))) := h
      unfold rwT at h
      refine sF rfl ?_
      cases hd : decide (((x :: l).length : Int) > mo) with
      | true => rw [hd] at h; exact sT rfl (sT (decide_eq_true (by omega)) h)
      | false => rw [hd] at h; exact sF rfl h
noncomputable def mcO (sr : Bool) (T : List Int) (M : Mc) (k : Int) : Mc := ((M.step (byV (dh sr k T))).1.step (byV (dr k T))).1
def seO (mo : Int) (se : Option Rw) (k : Int) : Option Rw := tlV mo k (flt k (vwO se))
noncomputable def runO (mo : Int) (sr : Bool) (T : List Int) : List Int → Mc × Option Rw → Mc × Option Rw
  | [], x => x
  | p :: l, x => runO mo sr T l (mcO sr T x.1 (p % 8), seO mo x.2 (p % 8))
noncomputable def endO (mo : Int) (P : List Int) (sr : Bool) (T : List Int) (x : Mc × Option Rw) : Tr (NExit × St) := .br x.2.isSome (.ret (.normal, dOu mo P sr T x.1 (some (x.2.getD ⟨0, 0, []⟩)))) (.ret (.normal, dOu mo P sr T x.1 none))
theorem dh_eq (sr : Bool) (T : List Int) {k : Int} (h : 0 ≤ k) : dh sr k T = hdC k.toNat sr T := by
  unfold dh hdC
  have e : Int.ofNat k.toNat = k := by show ((k.toNat : Nat) : Int) = k; omega
  rw [e]
theorem dr_eq (T : List Int) {k : Int} (h : 0 ≤ k ∧ k < 8) : dr k T = rwC k.toNat T := by
  unfold dr rwC
  have e : IntKind.i64.wrap (k + 1) = Int.ofNat (k.toNat + 1) := by rw [IntKind.wrap_i64]; show _ = ((k.toNat + 1 : Nat) : Int); omega
  rw [e]
theorem trimI_len (mo : Int) (l : List Int) : (trimI mo l).length ≤ l.length := by
  unfold trimI
  split
  · exact Nat.le_refl _
  · rw [List.length_tail]; omega
theorem seO_len (mo : Int) (se : Option Rw) (k : Int) : (vwO (seO mo se k)).length ≤ (vwO se).length + 1 := by
  have hf : (flt k (vwO se)).length ≤ (vwO se).length := List.length_filter_le _ _
  unfold seO
  rw [tlV_vw]
  cases k != 5 with
  | true =>
    have := trimI_len mo (flt k (vwO se) ++ [k])
    rw [List.length_append] at this
    show (trimI mo (flt k (vwO se) ++ [k])).length ≤ _
    have e : ([k] : List Int).length = 1 := rfl
    omega
  | false =>
    have := trimI_len mo (flt k (vwO se))
    show (trimI mo (flt k (vwO se))).length ≤ _
    omega
structure AOu where
  M : Mc
  se : Option Rw
  i : Nat
def preOu (mo : Int) (P : List Int) (sr : Bool) (T : List Int) (x : AOu) (R : NExit × St → Prop) : Prop :=
  (x.i ≤ P.length ∧ P.length ≤ 20 ∧ 1 ≤ mo) ∧ x.M.good ∧ okO x.se ∧ (vwO x.se).length ≤ x.i ∧ (endO mo P sr T (runO mo sr T (P.drop x.i) (x.M, x.se))).run R
def nxtOu (mo : Int) (P : List Int) (sr : Bool) (T : List Int) (x : AOu) (R : NExit × St → Prop) (q : RO) : Prop := match q with
  | .next s => ∃ y : AOu, s = sOu mo P sr T y.M y.se (y.i : Int) ∧ P.length - y.i < P.length - x.i ∧ preOu mo P sr T y R
  | .done e s => R (e, s)
theorem pkA_in {M : Mc} {d : Dv} {A : Prop} (hg : M.good) (hk : okD d) (hn : (M.step (byV d)).2 = none) (hA : A) : pkA M d A := by
  unfold pkA
  rw [hg.bk]
  exact ⟨⟨rfl, hk⟩, ⟨rfl, hg.ok⟩, ⟨rfl, hg, byV_in d, hn⟩, hA⟩
theorem ou_in (mo : Int) (P : List Int) (sr : Bool) (T : List Int) (x : AOu) (R : NExit × St → Prop) (h : preOu mo P sr T x R) (tl : Int → (Option Rw → Prop) → Prop)
    (htl : ∀ k nx, nx (seO mo x.se k) → tl k nx) : ouT mo P sr T x.M x.se (x.i : Int) (nxtOu mo P sr T x R) tl := by
  obtain ⟨M, se, i⟩ := x
  obtain ⟨⟨hi, hP, hm⟩, hg, hok, hlen, hR⟩ := h
  simp only at hi hP hm hg hok hlen hR htl
  show ouT mo P sr T M se (i : Int) (nxtOu mo P sr T ⟨M, se, i⟩ R) tl
  unfold ouT
  by_cases hlt : i < P.length
  · have hk : 0 ≤ kAt P (i : Int) ∧ kAt P (i : Int) < 8 := by unfold kAt; omega
    have h8 : (kAt P (i : Int)).toNat < 8 := by omega
    have ek : kAt P (i : Int) = P[i] % 8 := by
      unfold kAt
      rw [List.getD_eq_getElem?_getD]
      show (P[i]?).getD 0 % 8 = _
      rw [List.getElem?_eq_getElem hlt]
      rfl
    have hw : IntKind.i64.wrap ((i : Int) + 1) = ((i + 1 : Nat) : Int) := by rw [IntKind.wrap_i64]; omega
    have e1 := dh_eq sr T hk.1
    have e2 := dr_eq T hk
    have g1 : (M.step (byV (dh sr (kAt P (i : Int)) T))).1.good := step_good hg (byV_in _)
    have g2 : (mcO sr T M (kAt P (i : Int))).good := step_good g1 (byV_in _)
    have n1 : (M.step (byV (dh sr (kAt P (i : Int)) T))).2 = none := by rw [e1, step_hd M T sr h8]
    have n2 : ((M.step (byV (dh sr (kAt P (i : Int)) T))).1.step (byV (dr (kAt P (i : Int)) T))).2 = none := by rw [e2, step_rw _ T h8]
    have x1 : nxM M (dh sr (kAt P (i : Int)) T) = (M.step (byV (dh sr (kAt P (i : Int)) T))).1 := by unfold nxM; rw [hg.bk]
    have x2 : nxM (M.step (byV (dh sr (kAt P (i : Int)) T))).1 (dr (kAt P (i : Int)) T) = mcO sr T M (kAt P (i : Int)) := by unfold nxM; rw [g1.bk]; rfl
    rw [x1, x2, g2.bk, hw]
    rw [List.drop_eq_getElem_cons hlt] at hR
    have hR : (endO mo P sr T (runO mo sr T (P.drop (i + 1)) (mcO sr T M (P[i] % 8), seO mo se (P[i] % 8)))).run R := hR
    rw [← ek] at hR
    refine sT (decide_eq_true (by omega)) (sT (decide_eq_true (by omega)) (sT (decide_eq_true (by omega)) (sT (decide_eq_true (by show i < P.length; exact hlt)) ⟨⟨by decide, by decide⟩, pkA_in hg (.inl rfl) n1 (pkA_in g1 (.inr (.inl rfl)) n2 ⟨⟨rfl, hok⟩, htl _ _ ?_⟩)⟩)))
    have hs := seO_len mo se (kAt P (i : Int))
    have hf : (flt (kAt P (i : Int)) (vwO se)).length ≤ (vwO se).length := List.length_filter_le _ _
    exact ⟨⟨mcO sr T M (kAt P (i : Int)), seO mo se (kAt P (i : Int)), i + 1⟩, rfl, by simp only; omega, ⟨by simp only; omega, hP, hm⟩, g2, tlV_ok _ _ _ (by omega), by simp only; omega, hR⟩
  · refine sF (decide_eq_false (by omega)) ?_
    rw [List.drop_eq_nil_iff.2 (by omega)] at hR
    have hR : (endO mo P sr T (M, se)).run R := hR
    cases se with
    | none => exact hR
    | some w => exact hR
end Go.Proofs.YtdhhjgplnmpjcaaGreatDoor.ca
namespace Go.Proofs.YtdhhjgplnmpjcaaGreatDoor.ca
open Go.Proofs.YtdhhjgplnmpjcaaGreatDoor.sto (sT sF)
open Go Go.Nx Go.Proofs.YtdhhjgplnmpjcaaGreatDoor.pk Go.Proofs.YtdhhjgplnmpjcaaGreatDoor.mac Go.Proofs.YtdhhjgplnmpjcaaGreatDoor.bm Go.Proofs.YtdhhjgplnmpjcaaGreatDoor.df
def rdOu (s : St) : Option (Int × List Int × Bool × List Int) := match s.fr[(0 : Nat)]?, s.fr[(1 : Nat)]?, s.fr[(2 : Nat)]?, s.fr[(3 : Nat)]? with
  | some (.v (.c (.i _ mo))), some (.v (.c (.l _ P))), some (.v (.c (.b sr))), some (.v (.c (.l _ T))) => some (mo, P, sr, T)
  | _, _, _, _ => none
noncomputable def lOu (s : St) : Tr (NExit × St) := match rdOu s with
  | some (mo, P, sr, T) => .must (s = sOu mo P sr T (mcN mo) none 0 ∧ (1 ≤ mo ∧ mo ≤ 800) ∧ P.length ≤ 20) (endO mo P sr T (runO mo sr T P (mcN mo, none)))
  | none => .fail
theorem htlS {mo : Int} {w : Rw} (hm : 1 ≤ mo) (hl : (vw w).length ≤ 20) (k : Int) (nx : Option Rw → Prop) (h : nx (seO mo (some w) k)) : sel (flt k (vw w)).isEmpty (tlN mo k nx) (tlS mo k (flt k (vw w)) nx) := by
  have h : nx (tlV mo k (flt k (vw w))) := h
  have hf : (flt k (vw w)).length ≤ (vw w).length := List.length_filter_le _ _
  cases he : (flt k (vw w)).isEmpty with
  | true =>
    rw [List.isEmpty_iff.1 he] at h
    exact sT rfl (tlN_in hm h)
  | false => exact sF rfl (tlS_in he (by omega) h)
set_option maxRecDepth 100000 in
theorem loop_ou : LOk Tryz.prog GL 0 0 (bodyLoop f_ca 0) lOu := by
  refine loop_ok (X := X_cb) kc_ca mixed (LAll.one (id := 2) (body := bodyLoop f_ca 2) (by kernel_rfl) rfl loop_in) [0, 1, 2, 3, 9, 10, 12, 13] [9, 10, 12] (α := (Int × List Int × Bool × List Int) × AOu) (fun x => sOu x.1.1 x.1.2.1 x.1.2.2.1 x.1.2.2.2 x.2.M x.2.se (x.2.i : Int)) (fun x => x.1.2.1.length - x.2.i) (fun x R => preOu x.1.1 x.1.2.1 x.1.2.2.1 x.1.2.2.2 x.2 R) ?_ ?_
  · intro s R h
    unfold lOu at h
    split at h
    case h_2 => exact h.elim
    rename_i mo P sr T hx
    obtain ⟨⟨hs, hm, hP⟩, hR⟩ := h
    exact ⟨((mo, P, sr, T), ⟨mcN mo, none, 0⟩), hs, ⟨Nat.zero_le _, hP, hm.1⟩, mcN_good hm.1 hm.2, trivial, Nat.le_refl _, hR⟩
  · rintro ⟨⟨mo, P, sr, T⟩, x⟩ R h
    have key : ∀ q : RO, nxtOu mo P sr T x R q → (match q with
        | .next s => ∃ y : (Int × List Int × Bool × List Int) × AOu, s = sOu y.1.1 y.1.2.1 y.1.2.2.1 y.1.2.2.2 y.2.M y.2.se (y.2.i : Int) ∧ y.1.2.1.length - y.2.i < P.length - x.i ∧ preOu y.1.1 y.1.2.1 y.1.2.2.1 y.1.2.2.2 y.2 R
        | .done e s => R (e, s)) := fun q hq => by
      cases q with
      | done e s => exact hq
      | next s =>
        obtain ⟨y, h1, h2, h3⟩ := hq
        exact ⟨((mo, P, sr, T), y), h1, h2, h3⟩
    refine Tr.run_mono _ key ?_
    obtain ⟨M, se, i⟩ := x
    have hm : 1 ≤ mo := h.1.2.2
    cases se with
    | none =>
      have hin := ou_in mo P sr T ⟨M, none, i⟩ R h (tlN mo) (fun k nx hn => tlN_in hm hn)
      cases sr with
      | true => exact (Box.of_eq (ou_n1 mo P T M (i : Int) _) hin).out
      | false => exact (Box.of_eq (ou_n0 mo P T M (i : Int) _) hin).out
    | some w =>
      have hl : (vw w).length ≤ 20 := by
        have h1 : (vw w).length ≤ i := h.2.2.2.1
        have h2 : i ≤ P.length := h.1.1
        have h3 : P.length ≤ 20 := h.1.2.1
        omega
      have hin := ou_in mo P sr T ⟨M, some w, i⟩ R h (fun k nx => sel (flt k (vw w)).isEmpty (tlN mo k nx) (tlS mo k (flt k (vw w)) nx)) (htlS hm hl)
      cases sr with
      | true => exact (Box.of_eq (ou_s1 mo P T M w (i : Int) _) hin).out
      | false => exact (Box.of_eq (ou_s0 mo P T M w (i : Int) _) hin).out
end Go.Proofs.YtdhhjgplnmpjcaaGreatDoor.ca
namespace Go.Proofs.YtdhhjgplnmpjcaaGreatDoor.ca
open Go.Proofs.YtdhhjgplnmpjcaaGreatDoor.sto (sT sF kyRows kyP)
open Go Go.Nx Go.Proofs.YtdhhjgplnmpjcaaGreatDoor.pk Go.Proofs.YtdhhjgplnmpjcaaGreatDoor.mac Go.Proofs.YtdhhjgplnmpjcaaGreatDoor.bm Go.Proofs.YtdhhjgplnmpjcaaGreatDoor.df
noncomputable def sFi (M : Mc) (se : Option Rw) (rows : List (List Sc)) (i : Int) : St := { fr := frame 179 [(9, .v (.c (.b true))), (10, .v (.c (.p 0 0 0))), (12, .v (.c (seC se))), (20, .v (.c (.lr ac.K3 rows))), (21, .v (.c (.i .i64 i)))], rg := (inM M).map some ++ seR se }
noncomputable def rFi (s : St) : Tr RO := roundT X_ca 4 [9, 10, 12, 20, 21] [8, 9] (bodyLoop f_ca 4) s
noncomputable def dFi : St := { fr := frame 179 [(9, .v (.c (.b true)))], rg := [] }
noncomputable def xFi : St := { fr := frame 179 [(8, .v (.c (.b false))), (9, .v (.c (.b true)))], rg := [] }
def ixR (i : Int) (n : Nat) (A : Prop) : Prop := sel (decide (0 ≤ i)) (sel (decide (i < (n : Int))) (sel (decide (i.toNat < n)) A False) False) False
def thJ (p : ac.Pg) (j : Int) : Bool := ((p.th.getD j.toNat []).getD 0 (.i 0)).t
def kS (s : Int) : sto.Ky := (0 % 3 + 1, plP s, plS 3)
noncomputable def fi3 (M : Mc) (w : Rw) (i : Int) (F N : Prop) : Prop := ixW w i (pge.ckB (IntKind.i64.wrap (atW w i + 2)) (sel (thJ ((bk M).find (kS (atW w i))).1 (IntKind.i64.wrap (atW w i + 2))) F N))
noncomputable def fi2 (M : Mc) (w : Rw) (i : Int) (F N : Prop) : Prop := ixW w i (pge.ckB (IntKind.i64.wrap (atW w i + 1)) (sel (!thJ ((bk M).find (kS (atW w i))).1 (IntKind.i64.wrap (atW w i + 1))) F (fi3 M w i F N)))
noncomputable def fi1 (M : Mc) (w : Rw) (rows : List (List Sc)) (i : Int) (F N : Prop) : Prop := ixR i rows.length (ixW w i (plA ⟨1, 0, atW w i, 0, 0, [], [], [], []⟩ ∧ ((((rows.getD i.toNat []).getD 0 (.i 0)).n = 0 % 3 + 1 ∧ ((rows.getD i.toNat []).getD 1 (.i 0)).n = plP (atW w i) ∧ ((rows.getD i.toNat []).getD 2 (.i 0)).n = plS 0) ∧ fi2 M w i F N)))
noncomputable def fi0 (M : Mc) (w : Rw) (rows : List (List Sc)) (i : Int) (F N : Prop) : Prop :=
  plA ⟨1, 0, atW w i, 3, 0, [], [], [], []⟩ ∧ ((inM M = inM (bk M) ∧ (bk M).ok) ∧ (([NV.c (.p 0 0 0), .ag (sto.kyNC (kS (atW w i)))] = [NV.c (.p 0 0 0), .ag (sto.kyNC (kS (atW w i)))] ∧ (bk M).good) ∧ sel (!((bk M).find (kS (atW w i))).2) F (fi1 M w rows i F N)))
noncomputable def fiT (M : Mc) (w : Rw) (rows : List (List Sc)) (i : Int) (R : RO → Prop) : Prop :=
  sel (decide (i < (w.n : Int))) (ixW w i (fi0 M w rows i (R (.done .ret xFi)) (R (.next (sFi (bk M) (some w) rows (IntKind.i64.wrap (i + 1))))))) (R (.done .normal dFi))
theorem fi_s (M : Mc) (w : Rw) (rows : List (List Sc)) (i : Int) (R : RO → Prop) : (rFi (sFi M (some w) rows i)).run R = fiT M w rows i R := by kernel_rfl
theorem fi_n (M : Mc) (rows : List (List Sc)) (i : Int) (R : RO → Prop) : (rFi (sFi M none rows i)).run R = sel (decide (i < 0)) False (R (.done .normal dFi)) := by kernel_rfl
end Go.Proofs.YtdhhjgplnmpjcaaGreatDoor.ca
namespace Go.Proofs.YtdhhjgplnmpjcaaGreatDoor.ca
open Go.Proofs.YtdhhjgplnmpjcaaGreatDoor.sto
open Go.Proofs.YtdhhjgplnmpjcaaGreatDoor.ac (Pg pgZ)
open Go Go.Nx Go.Proofs.YtdhhjgplnmpjcaaGreatDoor.pk Go.Proofs.YtdhhjgplnmpjcaaGreatDoor.mac Go.Proofs.YtdhhjgplnmpjcaaGreatDoor.bm Go.Proofs.YtdhhjgplnmpjcaaGreatDoor.df
def okS (mo : Int) (S : List Nat) : Prop := (∀ k ∈ S, k < 8 ∧ k ≠ 5) ∧ (S.length : Int) ≤ mo
theorem filter_self {S : List Nat} (h : 5 ∉ S) : S.filter (nb 5) = S := by
  rw [List.filter_eq_self]
  intro k hk
  unfold nb
  cases hb : Nat.beq k 5 with
  | true => exact (h (Nat.eq_of_beq_eq_true hb ▸ hk)).elim
  | false => rfl
theorem trimS_mem {mo : Int} {S : List Nat} {k : Nat} (h : k ∈ trimS mo S) : k ∈ S := by
  unfold trimS at h
  split at h
  · exact h
  · exact List.mem_of_mem_tail h
theorem sent_ok {mo : Int} {S : List Nat} {k : Nat} (hm : 1 ≤ mo) (h : okS mo S) (hk : k < 8) : okS mo (sentS mo S k) := by
  unfold sentS
  cases h5 : Nat.beq k 5 with
  | true => exact h
  | false =>
    have hk5 : k ≠ 5 := Nat.ne_of_beq_eq_false h5
    have hl : (S.filter (nb k) ++ [k]).length ≤ S.length + 1 := by
      rw [List.length_append]
      exact Nat.succ_le_succ (List.length_filter_le _ _)
    refine ⟨fun j hj => ?_, ?_⟩
    · have hj := trimS_mem (show j ∈ trimS mo (S.filter (nb k) ++ [k]) from hj)
      rcases List.mem_append.1 hj with hj | hj
      · exact h.1 j (List.mem_filter.1 hj).1
      · rw [List.mem_singleton] at hj
        exact ⟨hj ▸ hk, hj ▸ hk5⟩
    · show ((trimS mo (S.filter (nb k) ++ [k])).length : Int) ≤ mo
      have h2 := h.2
      unfold trimS
      by_cases hc : ((S.filter (nb k) ++ [k]).length : Int) ≤ mo
      · rw [decide_eq_true hc]; exact hc
      · rw [decide_eq_false hc]
        show ((S.filter (nb k) ++ [k]).tail.length : Int) ≤ mo
        rw [List.length_tail]
        omega
theorem seO_in {mo : Int} {S : List Nat} {se : Option Rw} {k : Nat} (h : okS mo S) (hs : vwO se = inN S) (hk : k < 8) : vwO (seO mo se (Int.ofNat k)) = inN (sentS mo S k) := by
  unfold seO
  rw [tlV_vw, hs, flt_in]
  unfold sentS
  cases h5 : Nat.beq k 5 with
  | true =>
    have e : k = 5 := Nat.eq_of_beq_eq_true h5
    subst e
    have hn : 5 ∉ S := fun hm => (h.1 5 hm).2 rfl
    show trimI mo (inN (S.filter (nb 5))) = inN S
    rw [filter_self hn, trim_in]
    unfold trimS
    rw [decide_eq_true h.2]
  | false =>
    have hk5 : k ≠ 5 := Nat.ne_of_beq_eq_false h5
    have e : (Int.ofNat k != 5) = true := by
      rw [bne_iff_ne]
      intro hc
      exact hk5 (Int.ofNat.inj hc)
    rw [e]
    show trimI mo (inN (S.filter (nb k)) ++ [Int.ofNat k]) = inN (trimS mo (S.filter (nb k) ++ [k]))
    have e2 : inN (S.filter (nb k)) ++ [Int.ofNat k] = inN (S.filter (nb k) ++ [k]) := by unfold inN; rw [List.map_append]; rfl
    rw [e2, trim_in]
theorem mcO_inv {mo : Int} {S : List Nat} {M : Mc} (h : Inv mo S M) (T : List Int) (sr : Bool) {k : Int} (hk : 0 ≤ k ∧ k < 8) : Inv mo (sentS mo S k.toNat) (mcO sr T M k) := by
  unfold mcO
  rw [dh_eq sr T hk.1, dr_eq T hk]
  exact inv_two h T sr (by omega)
theorem inv_new {mo : Int} (h : 1 ≤ mo ∧ mo ≤ 800) : Inv mo [] (mcN mo) := ⟨mcN_good h.1 h.2, fun g hg => rfl, rfl, rfl, ⟨[], trivial, .inl ⟨rfl, rfl⟩⟩⟩
end Go.Proofs.YtdhhjgplnmpjcaaGreatDoor.ca
namespace Go.Proofs.YtdhhjgplnmpjcaaGreatDoor.ca
open Go.Proofs.YtdhhjgplnmpjcaaGreatDoor.sto
open Go.Proofs.YtdhhjgplnmpjcaaGreatDoor.ac (Pg pgZ)
open Go.Proofs.YtdhhjgplnmpjcaaGreatDoor.dec
open Go.Proofs.YtdhhjgplnmpjcaaGreatDoor.pge (Hx)
open Go Go.Nx Go.Proofs.YtdhhjgplnmpjcaaGreatDoor.pk Go.Proofs.YtdhhjgplnmpjcaaGreatDoor.mac Go.Proofs.YtdhhjgplnmpjcaaGreatDoor.bm Go.Proofs.YtdhhjgplnmpjcaaGreatDoor.df
def fiD : Dv := ⟨1, 0, 5, 0, 0, [], [], [], []⟩
noncomputable def dsF : List Int := (byV fiD).drop 2
theorem fi_pk : pkV (byV fiD) = .ok ⟨1, 0, 1, 0, dsF⟩ := by kernel_rfl
theorem fi_ok : hdOk dsF = true := by kernel_rfl
theorem fi_pn : ((hdV 1 dsF).pn == 255) = true := by kernel_rfl
noncomputable def midF (M : Mc) : Mc := (M.headed 1 (hdV 1 dsF) (txV dsF)).endM 1
theorem step_fi {M : Mc} (h : Cl M) : M.step (byV fiD) = (midF M, none) := by
  have hc : Cl (M.headed 1 (hdV 1 dsF) (txV dsF)) := fun g hg => by
    show (upd M.v 1 _ g).opn = false
    rw [upd_other hg]
    exact h g hg
  have e := ends_one (c := (hdV 1 dsF).c7) hc
  unfold Mc.step
  rw [fi_pk]
  show M.pkM ⟨1, 0, 1, 0, dsF⟩ = _
  unfold Mc.pkM
  show (match hdOk dsF with | true => (M.hdM 1 dsF, none) | false => (M, some eBit)) = _
  rw [fi_ok]
  show (M.hdM 1 dsF, none) = _
  have e2 : M.hdM 1 dsF = midF M := by
    show Mc.open' (Mc.ends (hdV 1 dsF).c7 1 8 1 (M.headed 1 (hdV 1 dsF) (txV dsF))) 1 (hdV 1 dsF) (txV dsF) = _
    rw [e]
    unfold Mc.open'
    rw [fi_pn]
    rfl
  rw [e2]
theorem midF_st (M : Mc) : (midF M).st = stE M := by
  unfold midF Mc.endM stE
  have e : ((M.headed 1 (hdV 1 dsF) (txV dsF)).v 1).opn = (M.v 1).opn := by show (upd M.v 1 { M.v 1 with h := hdV 1 dsF, t := txV dsF, bg := true } 1).opn = _; rw [upd_same]
  have e2 : ((M.headed 1 (hdV 1 dsF) (txV dsF)).v 1).p = (M.v 1).p := by show (upd M.v 1 { M.v 1 with h := hdV 1 dsF, t := txV dsF, bg := true } 1).p = _; rw [upd_same]
  rw [e]
  cases (M.v 1).opn with
  | true => show Sp.put ((M.headed 1 (hdV 1 dsF) (txV dsF)).v 1).p M.st = _; rw [e2]
  | false => rfl
theorem inv_fi {most : Int} {S : List Nat} {M : Mc} (h : Inv most S M) : (M.step (byV fiD)).2 = none ∧ (M.step (byV fiD)).1.good ∧ Rl S (M.step (byV fiD)).1.st.L := by
  have hg := step_good h.good (byV_in fiD)
  have e := step_fi h.cl
  rw [e] at hg ⊢
  refine ⟨rfl, hg, ?_⟩
  show Rl S (midF M).st.L
  rw [midF_st]
  exact (stE_rl h).1
theorem pl_inj : ∀ j < 8, ∀ k < 8, (plP (Int.ofNat j) == plP (Int.ofNat k)) = Nat.beq j k := by decide +kernel
theorem Q_hit {j k : Nat} {p : Pg} (hj : j < 8) (hk : k < 8) (hq : Q j p) (c : Int) : hitF (1, plP (Int.ofNat k), c) p = Nat.beq j k := by
  have h := Q_ky hq
  have h1 : p.mg = 1 := congrArg (fun x => x.1) h
  have h2 : p.pn = plP (Int.ofNat j) := congrArg (fun x => x.2.1) h
  unfold hitF
  rw [h1, h2]
  show ((1 : Int) == 1 && (plP (Int.ofNat j) == plP (Int.ofNat k))) = _
  rw [pl_inj j hj k hk]
  rfl
theorem rl_last {k : Nat} (hk : k < 8) (c : Int) : ∀ {S : List Nat} {L : List Pg} (o : Option Pg), Rl S L → (k ∈ S ∨ ∃ p, o = some p ∧ Q k p) → ∃ p, L.foldl (stepF (1, plP (Int.ofNat k), c)) o = some p ∧ Q k p
  | [], [], o, _, h => by
    rcases h with h | h
    · cases h
    · exact h
  | [], _ :: _, _, h, _ => h.elim
  | _ :: _, [], _, h, _ => h.elim
  | j :: S, q :: L, o, hr, h => by
    have hh := Q_hit hr.1.2 hk hr.1.1 c
    refine rl_last hk c (stepF (1, plP (Int.ofNat k), c) o q) hr.2 ?_
    unfold stepF
    rw [hh]
    cases hb : Nat.beq j k with
    | true =>
      have e : j = k := Nat.eq_of_beq_eq_true hb
      exact .inr ⟨q, rfl, e ▸ hr.1.1⟩
    | false =>
      rcases h with h | h
      · rcases List.mem_cons.1 h with h | h
        · exact absurd h.symm (Nat.ne_of_beq_eq_false hb)
        · exact .inl h
      · exact .inr h
theorem find_Q {M : Mc} {S : List Nat} {k : Nat} (hr : Rl S M.st.L) (hk : k < 8) (hm : k ∈ S) : (M.find (0 % 3 + 1, plP (Int.ofNat k), plS 3)).2 = true ∧ Q k (M.find (0 % 3 + 1, plP (Int.ofNat k), plS 3)).1 := by
  obtain ⟨p, h1, h2⟩ := rl_last hk 16255 none hr (.inl hm)
  have e : (0 % 3 + 1, plP (Int.ofNat k), plS 3) = ((1, plP (Int.ofNat k), 16255) : Ky) := rfl
  have e3 : M.find ((1, plP (Int.ofNat k), 16255) : Ky) = (p, true) := by
    show ((lastF (1, plP (Int.ofNat k), 16255) M.st.L).getD pgZ, (lastF (1, plP (Int.ofNat k), 16255) M.st.L).isSome) = (p, true)
    unfold lastF
    rw [h1]
    rfl
  rw [e, e3]
  exact ⟨rfl, h2⟩
theorem rl_keys : ∀ {S : List Nat} {L : List Pg}, Rl S L → L.map kyP = S.map kyN
  | [], [], _ => rfl
  | [], _ :: _, h => h.elim
  | _ :: _, [], h => h.elim
  | _ :: _, _ :: _, h => by rw [List.map_cons, List.map_cons, Q_ky h.1.1, rl_keys h.2]
end Go.Proofs.YtdhhjgplnmpjcaaGreatDoor.ca
namespace Go.Proofs.YtdhhjgplnmpjcaaGreatDoor.ca
open Go.Proofs.YtdhhjgplnmpjcaaGreatDoor.sto (sT sF kyRows kyP kyRow)
open Go Go.Nx Go.Proofs.YtdhhjgplnmpjcaaGreatDoor.pk Go.Proofs.YtdhhjgplnmpjcaaGreatDoor.mac Go.Proofs.YtdhhjgplnmpjcaaGreatDoor.bm Go.Proofs.YtdhhjgplnmpjcaaGreatDoor.df
def okF (M : Mc) (se : Option Rw) (rows : List (List Sc)) : Prop := ∃ S mo, Rl S M.st.L ∧ okS mo S ∧ mo ≤ 800 ∧ vwO se = inN S ∧ rows = kyRows (S.map kyN)
def rdFi (s : St) : Option (Mc × Option Rw × List (List Sc)) := match s.fr[(12 : Nat)]?, s.fr[(20 : Nat)]? with
  | some (.v (.c se)), some (.v (.c (.lr _ rows))) =>
    (match s.rg with
     | some a :: some b :: some c :: some d :: rest => (match rdMc [a, b, c, d] with
       | some M => (match se, rest with
         | .h _ o n, some ⟨_, _, .ints _ xs⟩ :: _ => some (M, some ⟨o, n, xs⟩, rows)
         | _, _ => some (M, none, rows))
       | none => none)
     | _ => none)
  | _, _ => none
noncomputable def lFi (s : St) : Tr (NExit × St) := match rdFi s with
  | some (M, se, rows) => .must (s = sFi M se rows 0 ∧ M.good ∧ okO se ∧ okF M se rows) (.ret (.normal, dFi))
  | none => .fail
def preFi (M : Mc) (se : Option Rw) (rows : List (List Sc)) (i : Nat) (R : NExit × St → Prop) : Prop := M.good ∧ okO se ∧ okF M se rows ∧ i ≤ (vwO se).length ∧ R (.normal, dFi)
theorem th_J {p : ac.Pg} {k : Nat} (hk : k < 8) (d : Nat) (hd : d ≤ 2) : thJ p (IntKind.i64.wrap (Int.ofNat k + (d : Int))) = ((p.th.getD (k + d) []).getD 0 (.i 0)).t ∧ 0 ≤ IntKind.i64.wrap (Int.ofNat k + (d : Int)) ∧ IntKind.i64.wrap (Int.ofNat k + (d : Int)) < 25 := by
  have e : IntKind.i64.wrap (Int.ofNat k + (d : Int)) = ((k + d : Nat) : Int) := by rw [IntKind.wrap_i64]; show ((k : Int) + d + _) % _ - _ = _; omega
  rw [e]
  exact ⟨rfl, by omega, by omega⟩
theorem fi_in {M : Mc} {w : Rw} {rows : List (List Sc)} {i : Nat} {R : NExit × St → Prop} {F N : Prop} (h : preFi M (some w) rows i R) (hi : i < w.n) (hN : N) : fi0 M w rows (i : Int) F N ∧ w.ok := by
  obtain ⟨hg, hok, ⟨S, mo, hr, hS, -, hv, hrow⟩, hl, -⟩ := h
  have hw : w.ok := hok
  have hlen := vw_len hw
  have hv : vw w = inN S := hv
  have hSl : S.length = w.n := by have := congrArg List.length hv; unfold inN at this; rw [List.length_map, hlen] at this; omega
  have hiS : i < S.length := by omega
  have hk := (hS.1 S[i] (List.getElem_mem hiS)).1
  have ea : atW w (i : Int) = Int.ofNat S[i] := by
    rw [← vw_at hw (by rw [hlen]; exact hi)]
    have : (vw w)[i]? = (inN S)[i]? := by rw [hv]
    unfold inN at this
    rw [List.getElem?_map, List.getElem?_eq_getElem hiS, List.getElem?_eq_getElem (by rw [hlen]; exact hi)] at this
    exact Option.some.inj this
  have hf := find_Q (M := M) hr hk (List.getElem_mem hiS)
  have hx : ∀ A : Prop, A → ixW w (i : Int) A := fun A hA => ixW_in hw (by omega) (by omega) hA
  have hrl : rows.length = S.length := by rw [hrow]; simp [kyRows]
  have hro : rows.getD i [] = kyRow (kyN S[i]) := by
    rw [hrow, List.getD_eq_getElem?_getD]
    unfold kyRows
    rw [List.getElem?_map, List.getElem?_map, List.getElem?_eq_getElem hiS]
    rfl
  obtain ⟨t1, t2, t3⟩ := th_J (p := (M.find (kS (Int.ofNat S[i]))).1) hk 1 (by omega)
  obtain ⟨u1, u2, u3⟩ := th_J (p := (M.find (kS (Int.ofNat S[i]))).1) hk 2 (by omega)
  have hq := hf.2
  refine ⟨?_, hw⟩
  unfold fi0 fi1 fi2 fi3
  rw [hg.bk, ea]
  refine ⟨rfl, ⟨rfl, hg.ok⟩, ⟨rfl, hg⟩, sF (by show (!(M.find (0 % 3 + 1, plP (Int.ofNat S[i]), plS 3)).2) = false; rw [hf.1]; rfl) ?_⟩
  refine sT (decide_eq_true (by omega)) (sT (decide_eq_true (by omega)) (sT (decide_eq_true (by show i < rows.length; omega)) (hx _ ⟨rfl, ?_, hx _ ?_⟩)))
  · show ((rows.getD i []).getD 0 (.i 0)).n = _ ∧ ((rows.getD i []).getD 1 (.i 0)).n = _ ∧ ((rows.getD i []).getD 2 (.i 0)).n = _
    rw [hro]
    exact ⟨rfl, rfl, rfl⟩
  · refine pge.ckB_of t2 t3 (sF ?_ (hx _ (pge.ckB_of u2 u3 (sF ?_ hN))))
    · have t1 : thJ (M.find (kS (Int.ofNat S[i]))).1 (IntKind.i64.wrap (Int.ofNat S[i] + 1)) = _ := t1
      rw [t1]
      show (!(((M.find (0 % 3 + 1, plP (Int.ofNat S[i]), plS 3)).1.th.getD (S[i] + 1) []).getD 0 (.i 0)).t) = false
      rw [hq.2.1]
      rfl
    · have u1 : thJ (M.find (kS (Int.ofNat S[i]))).1 (IntKind.i64.wrap (Int.ofNat S[i] + 2)) = _ := u1
      rw [u1]
      exact hq.2.2
end Go.Proofs.YtdhhjgplnmpjcaaGreatDoor.ca
namespace Go.Proofs.YtdhhjgplnmpjcaaGreatDoor.ca
open Go.Proofs.YtdhhjgplnmpjcaaGreatDoor.sto (sT sF kyRows kyP kyRow)
open Go Go.Nx Go.Proofs.YtdhhjgplnmpjcaaGreatDoor.pk Go.Proofs.YtdhhjgplnmpjcaaGreatDoor.mac Go.Proofs.YtdhhjgplnmpjcaaGreatDoor.bm Go.Proofs.YtdhhjgplnmpjcaaGreatDoor.df
structure AFi where
  M : Mc
  se : Option Rw
  rows : List (List Sc)
  i : Nat
def nxtFi (x : AFi) (R : NExit × St → Prop) (q : RO) : Prop := match q with
  | .next s => ∃ y : AFi, s = sFi y.M y.se y.rows (y.i : Int) ∧ (vwO y.se).length - y.i < (vwO x.se).length - x.i ∧ preFi y.M y.se y.rows y.i R
  | .done e s => R (e, s)
theorem fiT_in {M : Mc} {w : Rw} {rows : List (List Sc)} {i : Nat} {R : NExit × St → Prop} (h : preFi M (some w) rows i R) : fiT M w rows (i : Int) (nxtFi ⟨M, some w, rows, i⟩ R) := by
  have hg := h.1
  have hw : w.ok := h.2.1
  have hlen := vw_len hw
  unfold fiT
  by_cases hi : i < w.n
  · have hwr : IntKind.i64.wrap ((i : Int) + 1) = ((i + 1 : Nat) : Int) := by have := hw.2; rw [IntKind.wrap_i64]; omega
    refine sT (decide_eq_true (by omega)) (ixW_in hw (by omega) (by omega) (fi_in (R := R) h hi ?_).1)
    rw [hg.bk, hwr]
    exact ⟨⟨M, some w, rows, i + 1⟩, rfl, by show (vw w).length - (i + 1) < (vw w).length - i; omega, hg, hw, h.2.2.1, by show i + 1 ≤ (vw w).length; omega, h.2.2.2.2⟩
  · exact sF (decide_eq_false (by omega)) h.2.2.2.2
theorem fi_box (x : AFi) (R : NExit × St → Prop) (h : preFi x.M x.se x.rows x.i R) : Box ((rFi (sFi x.M x.se x.rows (x.i : Int))).run (nxtFi x R)) := by
  obtain ⟨M, se, rows, i⟩ := x
  cases se with
  | none =>
    have hi : i = 0 := by have := h.2.2.2.1; simpa [vwO] using this
    subst hi
    exact Box.of_eq (fi_n M rows 0 _) (sF (decide_eq_false (by omega)) h.2.2.2.2)
  | some w => exact Box.of_eq (fi_s M w rows (i : Int) _) (fiT_in h)
set_option maxRecDepth 100000 in
theorem loop_fi : LOk Tryz.prog GL 0 4 (bodyLoop f_ca 4) lFi := by
  refine loop_ok (X := X_ca) kc_ca mixed (LAll.none (by kernel_rfl)) [9, 10, 12, 20, 21] [8, 9] (fun x : AFi => sFi x.M x.se x.rows (x.i : Int)) (fun x => (vwO x.se).length - x.i) (fun x R => preFi x.M x.se x.rows x.i R) ?_ ?_
  · intro s R h
    unfold lFi at h
    split at h
    case h_2 => exact h.elim
    rename_i M se rows hx
    obtain ⟨⟨hs, hg, hok, hf⟩, hR⟩ := h
    exact ⟨⟨M, se, rows, 0⟩, hs, hg, hok, hf, Nat.zero_le _, hR⟩
  · intro x R h
    exact Tr.run_mono _ (fun q hq => hq) (fi_box x R h).out
noncomputable def t_ca : Con := fun args regs => if regs.length = 0 then nfun Tryz.prog GL c_ca [(0, [0, 1, 2, 3, 9, 10, 12, 13], lOu), (4, [9, 10, 12, 20, 21], lFi)] f_ca args regs else .fail
theorem k_ca : Known Tryz.prog GL 4 t_ca := known_loops 0 Tryz.func4 rfl (by kernel_rfl) mixed kc_ca (LAll.two (i1 := 0) (i2 := 4) (b1 := bodyLoop f_ca 0) (b2 := bodyLoop f_ca 4) (by kernel_rfl) rfl (by decide) loop_ou loop_fi)
end Go.Proofs.YtdhhjgplnmpjcaaGreatDoor.ca
namespace Go.Proofs.YtdhhjgplnmpjcaaGreatDoor.ca
open Go.Proofs.YtdhhjgplnmpjcaaGreatDoor.sto (sT sF kyRows kyP kyRow)
open Go Go.Nx Go.Proofs.YtdhhjgplnmpjcaaGreatDoor.pk Go.Proofs.YtdhhjgplnmpjcaaGreatDoor.mac Go.Proofs.YtdhhjgplnmpjcaaGreatDoor.bm Go.Proofs.YtdhhjgplnmpjcaaGreatDoor.df
noncomputable def oBl (b : Bool) : Out := ⟨.v (.c (.b b)), []⟩
def lenO : Option Rw → Int
  | none => 0
  | some w => (w.n : Int)
def rwsM (M : Mc) : List (List Sc) := kyRows (M.st.L.map kyP)
noncomputable def yCa (M : Mc) (se : Option Rw) (R : Out → Prop) : Prop :=
  pkA M fiD ((inM (nxM M fiD) = inM (bk (nxM M fiD)) ∧ (bk (nxM M fiD)).ok) ∧ sel (((rwsM (bk (nxM M fiD))).length : Int) != lenO se) (R (oBl false))
    ((sFi (bk (nxM M fiD)) se (rwsM (bk (nxM M fiD))) 0 = sFi (bk (bk (nxM M fiD))) se (rwsM (bk (nxM M fiD))) 0 ∧ (bk (bk (nxM M fiD))).good ∧ okO se ∧ okF (bk (bk (nxM M fiD))) se (rwsM (bk (nxM M fiD)))) ∧ R (oBl true)))
noncomputable def moC (a : Int) : Int := IntKind.i64.wrap (a % 12 + 1)
noncomputable def caT (a : Int) (P : List Int) (sr : Bool) (T : List Int) (R : Out → Prop) : Prop :=
  nmA 12 ∧ sel (decide ((P.length : Int) > 20)) (R (oBl true)) (sel (decide ((T.length : Int) > 40)) (R (oBl true)) ([NV.c (.i .i64 (moC a))] = [NV.c (.i .i64 (moC a))] ∧ sel (decide (moC a < 1)) (R (oBl false)) (sel (decide (moC a > 800)) (R (oBl false))
    ((sOu (moC a) P sr T (mcN (moC a)) none 0 = sOu (moC a) P sr T (mcN (moC a)) none 0 ∧ (1 ≤ moC a ∧ moC a ≤ 800) ∧ P.length ≤ 20) ∧
      sel (runO (moC a) sr T P (mcN (moC a), none)).2.isSome (yCa (runO (moC a) sr T P (mcN (moC a), none)).1 (some ((runO (moC a) sr T P (mcN (moC a), none)).2.getD ⟨0, 0, []⟩)) R) (yCa (runO (moC a) sr T P (mcN (moC a), none)).1 none R)))))
theorem ca_1 (a : Int) (P T : List Int) (R : Out → Prop) : (t_ca [.c (.i .i64 a), .c (.l .i64 P), .c (.b true), .c (.l .u8 T)] []).run R = caT a P true T R := by kernel_rfl
theorem ca_0 (a : Int) (P T : List Int) (R : Out → Prop) : (t_ca [.c (.i .i64 a), .c (.l .i64 P), .c (.b false), .c (.l .u8 T)] []).run R = caT a P false T R := by kernel_rfl
end Go.Proofs.YtdhhjgplnmpjcaaGreatDoor.ca
namespace Go.Proofs.YtdhhjgplnmpjcaaGreatDoor.ca
open Go.Proofs.YtdhhjgplnmpjcaaGreatDoor.sto (sT sF kyRows kyP kyRow)
open Go Go.Nx Go.Proofs.YtdhhjgplnmpjcaaGreatDoor.pk Go.Proofs.YtdhhjgplnmpjcaaGreatDoor.mac Go.Proofs.YtdhhjgplnmpjcaaGreatDoor.bm Go.Proofs.YtdhhjgplnmpjcaaGreatDoor.df
theorem inN_len (S : List Nat) : (inN S).length = S.length := List.length_map ..
theorem runO_okO {mo : Int} (hm : 1 ≤ mo ∧ mo ≤ 800) (sr : Bool) (T : List Int) : ∀ (P : List Int) (x : Mc × Option Rw) (S : List Nat), Inv mo S x.1 → okS mo S → vwO x.2 = inN S → okO x.2 →
    ∃ S', Inv mo S' (runO mo sr T P x).1 ∧ okS mo S' ∧ vwO (runO mo sr T P x).2 = inN S' ∧ okO (runO mo sr T P x).2
  | [], x, S, h1, h2, h3, h0 => ⟨S, h1, h2, h3, h0⟩
  | p :: P, x, S, h1, h2, h3, h0 => by
    have hk : 0 ≤ p % 8 ∧ p % 8 < 8 := by omega
    have e : Int.ofNat (p % 8).toNat = p % 8 := by show (((p % 8).toNat : Nat) : Int) = p % 8; omega
    have h8 : (p % 8).toNat < 8 := by omega
    have h4 := seO_in h2 h3 h8
    rw [e] at h4
    have hl : (vwO x.2).length = S.length := by rw [h3, inN_len]
    have hf : (flt (p % 8) (vwO x.2)).length ≤ (vwO x.2).length := List.length_filter_le _ _
    have hS := h2.2
    have h5 : okO (seO mo x.2 (p % 8)) := tlV_ok _ _ _ (by omega)
    exact runO_okO hm sr T P (mcO sr T x.1 (p % 8), seO mo x.2 (p % 8)) (sentS mo S (p % 8).toNat) (mcO_inv h1 T sr hk) (sent_ok hm.1 h2 h8) h4 h5
theorem lenO_eq {se : Option Rw} (h : okO se) : ((vwO se).length : Int) = lenO se := by
  cases se with
  | none => rfl
  | some w => show ((vw w).length : Int) = (w.n : Int); rw [vw_len h]
theorem yCa_in {mo : Int} {S : List Nat} {M : Mc} {se : Option Rw} {R : Out → Prop} (hm : mo ≤ 800) (h : Inv mo S M) (hS : okS mo S) (hv : vwO se = inN S) (hok : okO se) (hR : R (oBl true)) : yCa M se R := by
  obtain ⟨h1, h2, h3⟩ := inv_fi h
  have en : nxM M fiD = (M.step (byV fiD)).1 := by unfold nxM; rw [h.good.bk]
  unfold yCa
  rw [en]
  generalize (M.step (byV fiD)).1 = M3 at *
  rw [h2.bk, h2.bk]
  have hrow : rwsM M3 = kyRows (S.map kyN) := by unfold rwsM; rw [rl_keys h3]
  have hlen : ((rwsM M3).length : Int) = lenO se := by
    rw [← lenO_eq hok, hv, inN_len, hrow]
    simp [kyRows]
  exact pkA_in h.good (.inl rfl) h1 ⟨⟨rfl, h2.ok⟩, sF (by rw [hlen]; simp) ⟨⟨rfl, h2, hok, ⟨S, mo, h3, hS, hm, hv, hrow⟩⟩, hR⟩⟩
theorem ca_in (a : Int) (P : List Int) (sr : Bool) (T : List Int) (R : Out → Prop) (hR : R (oBl true)) : caT a P sr T R := by
  have hmo : moC a = a % 12 + 1 := by unfold moC; rw [IntKind.wrap_i64]; omega
  have hm : 1 ≤ moC a ∧ moC a ≤ 800 := by rw [hmo]; omega
  have n12 : nmA 12 := ⟨by decide, by decide⟩
  obtain ⟨S, i1, i2, i3, i4⟩ := runO_okO hm sr T P (mcN (moC a), none) [] (inv_new hm) ⟨(fun k hk => by cases hk), by show ((0 : Nat) : Int) ≤ moC a; omega⟩ rfl trivial
  unfold caT
  refine ⟨n12, ?_⟩
  by_cases hP : (P.length : Int) > 20
  · exact sT (decide_eq_true hP) hR
  refine sF (decide_eq_false hP) ?_
  by_cases hT : (T.length : Int) > 40
  · exact sT (decide_eq_true hT) hR
  refine sF (decide_eq_false hT) ⟨rfl, sF (decide_eq_false (by omega)) (sF (decide_eq_false (by omega)) ⟨⟨rfl, hm, by omega⟩, ?_⟩)⟩
  cases hs : (runO (moC a) sr T P (mcN (moC a), none)).2 with
  | none =>
    rw [hs] at i3 i4
    exact sF rfl (yCa_in hm.2 i1 i2 i3 i4 hR)
  | some w =>
    rw [hs] at i3 i4
    exact sT rfl (yCa_in hm.2 i1 i2 i3 i4 hR)
attribute [local irreducible] t_ca in
theorem ca_holds (a : Int) (P : List Int) (sr : Bool) (T : List Int) (R : Out → Prop) (hR : R (oBl true)) : Box ((t_ca [.c (.i .i64 a), .c (.l .i64 P), .c (.b sr), .c (.l .u8 T)] []).run R) := by
  cases sr with
  | true => exact Box.of_eq (ca_1 a P T R) (ca_in a P true T R hR)
  | false => exact Box.of_eq (ca_0 a P T R) (ca_in a P false T R hR)
attribute [local irreducible] t_ca in
set_option maxRecDepth 100000 in
theorem ca_yes (a : Int) (P : List Int) (sr : Bool) (T : List Int) : Holds (t_ca [.c (.i .i64 a), .c (.l .i64 P), .c (.b sr), .c (.l .u8 T)] []) fun q => q.res = .v (.c (.b true)) := ⟨Box.out (ca_holds a P sr T _ rfl)⟩
def shsCa : List Sh := [.i .i64, .row .i64, .b, .row .u8]
theorem ca_law (xs : List NV) (h : R2 ShOk shsCa xs) : Holds (t_ca xs []) fun o => o.res = .v (.c (.b true)) := by
  cases h with
  | cons h1 h =>
    cases h with
    | cons h2 h =>
      cases h with
      | cons h3 h =>
        cases h with
        | cons h4 h =>
          cases h
          cases h1 with
          | @i _ a _ =>
            cases h2 with
            | @row _ P _ =>
              cases h3 with
              | @b sr =>
                cases h4 with
                | @row _ T _ => exact ca_yes a P sr T
end Go.Proofs.YtdhhjgplnmpjcaaGreatDoor.ca
