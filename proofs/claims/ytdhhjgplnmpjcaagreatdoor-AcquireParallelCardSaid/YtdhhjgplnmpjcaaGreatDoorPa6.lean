/-
  Joined: SvR, AqU, AqV, AqVa, AqVb, AqX, AqY, AqZ, AqZa, AqN1, AqN2, AqN3, BmA, BmB, BmC, BmD, BmE, DfA, PlA, PlB.
-/
import Derived.Test.YtdhhjgplnmpjcaaGreatDoorPa5
set_option linter.unusedVariables false
namespace Go.Proofs.YtdhhjgplnmpjcaaGreatDoor.sv
open Go Go.Nx Go.Proofs.YtdhhjgplnmpjcaaGreatDoor.pk Go.Proofs.YtdhhjgplnmpjcaaGreatDoor.ln Go.Proofs.YtdhhjgplnmpjcaaGreatDoor.hd Go.Proofs.YtdhhjgplnmpjcaaGreatDoor.lb
def odd (x : Int) : Bool := !isEv x
noncomputable def aU (a b : Int) : Int := bits .and .u8 a b
noncomputable def oU (a b : Int) : Int := bits .or .u8 a b
theorem podd_tree (b : Int) (R : Out → Prop) : (t_podd [.c (.i .u8 b)] []).run R = sel (decide (0 ≤ b)) (sel (decide (b < (tab.size : Int))) (R (oB ((IntKind.i64.wrap (byteAt tab b.toNat)).tmod 2 == 1))) False) False := by kernel_rfl
theorem tab_odd : ∀ n < 256, ((IntKind.i64.wrap (byteAt tab n)).tmod 2 == 1) = odd (Int.ofNat n) := by decide +kernel
noncomputable def tOddV : Con := fun args regs => match args, regs with
  | [.c (.i .u8 b)], [] => .must (0 ≤ b ∧ b < 256) (.ret (oB (odd b)))
  | _, _ => .fail
set_option maxRecDepth 100000 in
theorem kOddV : Known Tryz.prog GL 149 tOddV := by
  refine (known_gl k_podd).less fun args regs R h => Box.out ?_
  unfold tOddV at h
  split at h
  case h_2 => exact h.elim
  rename_i b
  have h1 := h.1
  have h2 : R (oB (odd b)) := h.2
  clear h
  refine Box.of_eq (podd_tree b R) (selT (dT h1.1) (selT (dT (by rw [tab_size]; exact h1.2)) ?_))
  obtain ⟨n, hn, rfl⟩ := byte_nat h1
  rw [show (Int.ofNat n).toNat = n from rfl, tab_odd n hn]
  exact h2
noncomputable def mkO (c : Int) : Int := bif odd (aU c 127) then aU c 127 else oU (aU c 127) 128
theorem aU_in (a b : Int) : 0 ≤ aU a b ∧ aU a b < 256 := by
  unfold aU bits
  rw [IntKind.wrap_u8]
  omega
theorem oU_in (a b : Int) : 0 ≤ oU a b ∧ oU a b < 256 := by
  unfold oU bits
  rw [IntKind.wrap_u8]
  omega
theorem mkO_in (c : Int) : 0 ≤ mkO c ∧ mkO c < 256 := by
  unfold mkO
  cases odd (aU c 127) with
  | true => exact aU_in _ _
  | false => exact oU_in _ _
noncomputable def tMkO : Con := fun args regs => match args, regs with
  | [.c (.i .u8 c)], [] => .ret ⟨.v (.c (.i .u8 (mkO c))), []⟩
  | _, _ => .fail
def revN (x : Nat) : Nat := (List.range 8).foldl (fun a i => a + (x / 2 ^ i % 2) * 2 ^ (7 - i)) 0
def rv (b : Int) : Int := (revN b.toNat : Int)
noncomputable def rtab : ByteArray := ⟨((List.range 256).map fun i => UInt8.ofNat (revN i)).toArray⟩
theorem turn_tree (b : Int) (R : Out → Prop) : (t_pturn [.c (.i .u8 b)] []).run R = sel (decide (0 ≤ b)) (sel (decide (b < (rtab.size : Int))) (R ⟨.v (.c (.i .u8 (byteAt rtab b.toNat))), []⟩) False) False := by kernel_rfl
theorem rtab_size : rtab.size = 256 := by decide +kernel
theorem rtab_rev : ∀ n < 256, byteAt rtab n = rv (Int.ofNat n) := by decide +kernel
noncomputable def tTurn : Con := fun args regs => match args, regs with
  | [.c (.i .u8 b)], [] => .must (0 ≤ b ∧ b < 256) (.ret ⟨.v (.c (.i .u8 (rv b))), []⟩)
  | _, _ => .fail
set_option maxRecDepth 100000 in
theorem kTurn : Known Tryz.prog GL 87 tTurn := by
  refine k_pturn.less fun args regs R h => Box.out ?_
  unfold tTurn at h
  split at h
  case h_2 => exact h.elim
  rename_i b
  have h1 := h.1
  have h2 : R ⟨.v (.c (.i .u8 (rv b))), []⟩ := h.2
  clear h
  refine Box.of_eq (turn_tree b R) (selT (dT h1.1) (selT (dT (by rw [rtab_size]; exact h1.2)) ?_))
  obtain ⟨n, hn, rfl⟩ := byte_nat h1
  rw [show (Int.ofNat n).toNat = n from rfl, rtab_rev n hn]
  exact h2
noncomputable abbrev fDigs := Tryz.f132
noncomputable def X_dg : Cx := { P := Tryz.prog, con := fun _ => Option.none, glob := GL, m := 0, loops := [] }
noncomputable def sDg (bs : List Int) (n k : Int) : St := { fr := frame 41 [(0, .v (.c (.l .u8 bs))), (6, .v (.c (.i .i64 n))), (7, .v (.c (.i .i64 k)))], rg := [] }
noncomputable def dDg (n : Int) : St := { fr := frame 41 [(6, .v (.c (.i .i64 n)))], rg := [] }
noncomputable def rDg (n : Int) : St := { fr := frame 41 [(4, .v (.c (.i .i64 0))), (5, .v (.c (.b false))), (6, .v (.c (.i .i64 n)))], rg := [] }
noncomputable def kD (k : Int) : Int := IntKind.i64.wrap (k.tdiv 2)
noncomputable def shD (k : Int) : Int := IntKind.i64.wrap (4 - IntKind.i64.wrap (4 * k.tmod 2))
noncomputable def dAt (bs : List Int) (k : Int) : Int := IntKind.i64.wrap (IntKind.i64.wrap (aU (shrv .u8 (bs.getD (kD k).toNat 0) (shD k)) 15) - 1)
noncomputable def ac (n d : Int) : Int := IntKind.i64.wrap (IntKind.i64.wrap (10 * n) + d)
theorem round_dg (bs : List Int) (n k : Int) (R : RO → Prop) : (roundT X_dg 0 [0, 6, 7] [4, 5, 6] (bodyLoop fDigs 0) (sDg bs n k)).run R =
    sel (decide (k < IntKind.i64.wrap (2 * (bs.length : Int)))) (sel (decide (0 ≤ kD k)) (sel (decide (kD k < (bs.length : Int))) (sel (decide ((kD k).toNat < bs.length)) (sel (decide (0 ≤ shD k)) (sel (decide (dAt bs k < 0)) (R (.done .ret (rDg n))) (sel (decide (dAt bs k > 9)) (R (.done .ret (rDg n))) (R (.next (sDg bs (ac n (dAt bs k)) (IntKind.i64.wrap (k + 1))))))) False) False) False) False) (R (.done .normal (dDg n))) := by kernel_rfl
def okd (d : Int) : Bool := !(decide (d < 0) || decide (d > 9))
noncomputable def goD (bs : List Int) : Nat → Nat → Int → Bool × Int
  | 0, _, n => (true, n)
  | r + 1, k, n => bif okd (dAt bs (k : Int)) then goD bs r (k + 1) (ac n (dAt bs (k : Int))) else (false, n)
noncomputable def pDg : List Pat := pats 41 [(0, .l .u8), (6, .i .i64), (7, .i .i64)]
noncomputable def lDg : List Leaf × List (List Leaf) → Tr (NExit × St) := fun x => match x with
  | ([.l bs, .i n, .i k], []) => .must (bs.length < 1000 ∧ 0 ≤ k ∧ k ≤ 2 * (bs.length : Int)) (.br (goD bs (2 * bs.length - k.toNat) k.toNat n).1 (.ret (.normal, dDg (goD bs (2 * bs.length - k.toNat) k.toNat n).2)) (.ret (.ret, rDg (goD bs (2 * bs.length - k.toNat) k.toNat n).2)))
  | _ => .fail
def muDg : List Leaf × List (List Leaf) → Nat := fun x => match x with
  | ([.l bs, .i _, .i k], _) => (2 * (bs.length : Int) - k).toNat
  | _ => 0
set_option maxRecDepth 100000 in
theorem loop_dg : LOk Tryz.prog GL 0 0 (bodyLoop fDigs 0) (sumP pDg [] lDg) := by
  refine sumP_ok (X := X_dg) con_none mixed (LAll.none (by kernel_rfl)) [0, 6, 7] [4, 5, 6] _ _ _ muDg ?_
  rintro ⟨p, q⟩ R h
  unfold lDg at h
  split at h
  case h_2 => exact h.elim
  rename_i bs n k he
  cases he
  have h1 := h.1
  have h2 : sel (goD bs (2 * bs.length - k.toNat) k.toNat n).1 (R (.normal, dDg (goD bs (2 * bs.length - k.toNat) k.toNat n).2)) (R (.ret, rDg (goD bs (2 * bs.length - k.toNat) k.toNat n).2)) := h.2
  clear h
  obtain ⟨hl, hk0, hk⟩ := h1
  show (roundT X_dg 0 [0, 6, 7] [4, 5, 6] (bodyLoop fDigs 0) (sDg bs n k)).run _
  rw [round_dg]
  have w1 : IntKind.i64.wrap (2 * (bs.length : Int)) = 2 * (bs.length : Int) := by rw [IntKind.wrap_i64]; omega
  rw [w1]
  refine sel_by (fun hlt => ?_) fun hge => ?_
  · have ek : kD k = k / 2 := by
      unfold kD
      rw [Int.tdiv_eq_ediv_of_nonneg hk0, IntKind.wrap_i64]
      omega
    have es : shD k = 4 - 4 * (k % 2) := by
      unfold shD
      rw [Int.tmod_eq_emod_of_nonneg hk0, IntKind.wrap_i64, IntKind.wrap_i64]
      omega
    have w2 : IntKind.i64.wrap (k + 1) = k + 1 := by rw [IntKind.wrap_i64]; omega
    rw [ek, es, w2]
    refine selT (dT (by omega)) (selT (dT (by omega)) (selT (dT (by omega)) (selT (dT (by omega)) ?_)))
    obtain ⟨r, hr⟩ : ∃ r, 2 * bs.length - k.toNat = r + 1 := ⟨2 * bs.length - k.toNat - 1, by omega⟩
    have er : 2 * bs.length - (k + 1).toNat = r := by omega
    have ekn : (k + 1).toNat = k.toNat + 1 := by omega
    rw [hr] at h2
    have eu : goD bs (r + 1) k.toNat n = bif okd (dAt bs (k.toNat : Int)) then goD bs r (k.toNat + 1) (ac n (dAt bs (k.toNat : Int))) else (false, n) := rfl
    rw [eu, show ((k.toNat : Nat) : Int) = k by omega] at h2
    unfold okd at h2
    cases e1 : decide (dAt bs k < 0) with
    | true => rw [e1] at h2; exact selT rfl h2
    | false =>
      refine selF rfl ?_
      cases e2 : decide (dAt bs k > 9) with
      | true => rw [e1, e2] at h2; exact selT rfl h2
      | false =>
        rw [e1, e2] at h2
        have h2 : sel (goD bs r (k.toNat + 1) (ac n (dAt bs k))).1 (R (.normal, dDg (goD bs r (k.toNat + 1) (ac n (dAt bs k))).2)) (R (.ret, rDg (goD bs r (k.toNat + 1) (ac n (dAt bs k))).2)) := h2
        refine selF rfl ⟨([.l bs, .i (ac n (dAt bs k)), .i (k + 1)], []), rfl, by show (2 * (bs.length : Int) - (k + 1)).toNat < (2 * (bs.length : Int) - k).toNat; omega, ⟨hl, by omega, by omega⟩, ?_⟩
        rw [er, ekn]
        exact h2
  · have e0 : 2 * bs.length - k.toNat = 0 := by omega
    rw [e0] at h2
    exact h2
noncomputable def t_digs : Con := fun args regs => if regs.length = 0 then nfun Tryz.prog GL (fun _ => Option.none) [(0, [0, 6, 7], sumP pDg [] lDg)] Tryz.f132 args regs else .fail
theorem k_digs : Known Tryz.prog GL 132 t_digs := known_loops 0 Tryz.func132 rfl (by kernel_rfl) mixed con_none (LAll.one (id := 0) (body := bodyLoop Tryz.f132 0) (by kernel_rfl) rfl loop_dg)
noncomputable def oDg (b : Bool) (n : Int) : Out := ⟨.tu [.c (.i .i64 (bif b then n else 0)), .c (.b b)], []⟩
theorem digs_tree (bs : List Int) (k : Int) (R : Out → Prop) : (t_digs [.c (.l .u8 bs), .c (.i .i64 k)] []).run R = ((bs.length < 1000 ∧ 0 ≤ k ∧ k ≤ 2 * (bs.length : Int)) ∧ sel (goD bs (2 * bs.length - k.toNat) k.toNat 0).1 (R (oDg true (goD bs (2 * bs.length - k.toNat) k.toNat 0).2)) (R (oDg false 0))) := by kernel_rfl
noncomputable def okD (bs : List Int) (k : Int) : Bool := (goD bs (2 * bs.length - k.toNat) k.toNat 0).1
noncomputable def vaD (bs : List Int) (k : Int) : Int := (goD bs (2 * bs.length - k.toNat) k.toNat 0).2
noncomputable def tDigV : Con := fun args regs => match args, regs with
  | [.c (.l .u8 bs), .c (.i .i64 k)], [] => .must (bs.length < 1000 ∧ 0 ≤ k ∧ k ≤ 2 * (bs.length : Int)) (.ret (oDg (okD bs k) (vaD bs k)))
  | _, _ => .fail
set_option maxRecDepth 100000 in
theorem kDigV : Known Tryz.prog GL 132 tDigV := by
  refine k_digs.less fun args regs R h => Box.out ?_
  unfold tDigV at h
  split at h
  case h_2 => exact h.elim
  rename_i bs k
  have h1 := h.1
  have h2 : R (oDg (okD bs k) (vaD bs k)) := h.2
  clear h
  refine Box.of_eq (digs_tree bs k R) ⟨h1, ?_⟩
  unfold okD vaD at h2
  cases e : (goD bs (2 * bs.length - k.toNat) k.toNat 0).1 with
  | true => rw [e] at h2; exact selT rfl h2
  | false => rw [e] at h2; exact selF rfl h2
noncomputable abbrev fWords := Tryz.f90
def txc (z : ByteArray) (k : Nat) : Int := bif decide ((k : Int) < (z.size : Int)) then byteAt z k else 32
noncomputable def txA (z : ByteArray) (k : Nat) : List Int := (List.range k).map fun j => mkO (txc z j)
end Go.Proofs.YtdhhjgplnmpjcaaGreatDoor.sv
namespace Go.Proofs.YtdhhjgplnmpjcaaGreatDoor.sv
open Go Go.Nx Go.Proofs.YtdhhjgplnmpjcaaGreatDoor.pk Go.Proofs.YtdhhjgplnmpjcaaGreatDoor.ln Go.Proofs.YtdhhjgplnmpjcaaGreatDoor.hd Go.Proofs.YtdhhjgplnmpjcaaGreatDoor.lb
noncomputable def c_ptx : FuncId → Option Con := conOf [(149, tOddV)]
theorem kc_ptx : ∀ f T, c_ptx f = some T → Known Tryz.prog GL f T := (Knowns.cons kOddV .nil).get
noncomputable def X_ptx : Cx := { P := Tryz.prog, con := c_ptx, glob := GL, m := 0, loops := [] }
noncomputable def t_ptx : Con := fun args regs => if regs.length = 0 then nfun Tryz.prog GL c_ptx [(0, [4, 5, 8, 9, 10], unroll X_ptx 0 [4, 5, 8, 9, 10] [4, 5] (bodyLoop Tryz.f134 0) 21)] Tryz.f134 args regs else .fail
theorem k_ptx : Known Tryz.prog GL 134 t_ptx := known_loops 0 Tryz.func134 rfl (by kernel_rfl) mixed kc_ptx (LAll.one (id := 0) (body := bodyLoop Tryz.f134 0) (by kernel_rfl) rfl (unroll_ok (X := X_ptx) kc_ptx mixed (LAll.none (by kernel_rfl)) [4, 5, 8, 9, 10] [4, 5] 21))
noncomputable def oPT (bs : List Int) : Out := ⟨.tu [.c (.h 0 0 20), .c (.h 1 0 20)], [some ⟨1, 5, .ints .u8 (bs.map fun x => aU x 127)⟩, some ⟨1, 4, .recs [.b] (bs.map fun x => [Sc.b (odd x)])⟩]⟩
theorem ptx_tree (g : Nat → Int) (R : Out → Prop) : (t_ptx [.c (.l .u8 ((List.range 20).map g))] []).run R = ((0 ≤ g 0 ∧ g 0 < 256) ∧ ((0 ≤ g 1 ∧ g 1 < 256) ∧ ((0 ≤ g 2 ∧ g 2 < 256) ∧ ((0 ≤ g 3 ∧ g 3 < 256) ∧ ((0 ≤ g 4 ∧ g 4 < 256) ∧ ((0 ≤ g 5 ∧ g 5 < 256) ∧ ((0 ≤ g 6 ∧ g 6 < 256) ∧ ((0 ≤ g 7 ∧ g 7 < 256) ∧ ((0 ≤ g 8 ∧ g 8 < 256) ∧ ((0 ≤ g 9 ∧ g 9 < 256) ∧ ((0 ≤ g 10 ∧ g 10 < 256) ∧ ((0 ≤ g 11 ∧ g 11 < 256) ∧ ((0 ≤ g 12 ∧ g 12 < 256) ∧ ((0 ≤ g 13 ∧ g 13 < 256) ∧ ((0 ≤ g 14 ∧ g 14 < 256) ∧ ((0 ≤ g 15 ∧ g 15 < 256) ∧ ((0 ≤ g 16 ∧ g 16 < 256) ∧ ((0 ≤ g 17 ∧ g 17 < 256) ∧ ((0 ≤ g 18 ∧ g 18 < 256) ∧ ((0 ≤ g 19 ∧ g 19 < 256) ∧ R (oPT ((List.range 20).map g)))))))))))))))))))))) := by kernel_rfl
noncomputable def tPT : Con := fun args regs => match args, regs with
  | [.c (.l .u8 bs)], [] => .must (bs.length = 20 ∧ ∀ x ∈ bs, 0 ≤ x ∧ x < 256) (.ret (oPT bs))
  | _, _ => .fail
theorem range_n {ds : List Int} {n : Nat} (h : ds.length = n) : ds = (List.range n).map fun i => ds.getD i 0 := by
  refine List.ext_getElem (by simp [h]) fun j h1 h2 => ?_
  rw [List.getElem_map, List.getElem_range, List.getD_eq_getElem?_getD, List.getElem?_eq_getElem h1]
  rfl
theorem g_in {g : Nat → Int} {n : Nat} (h : ∀ x ∈ (List.range n).map g, 0 ≤ x ∧ x < 256) (j : Nat) (hj : j < n) : 0 ≤ g j ∧ g j < 256 := h _ (List.mem_map.2 ⟨j, List.mem_range.2 hj, rfl⟩)
theorem ptx_in {bs : List Int} {R : Out → Prop} (hl : bs.length = 20) (hb : ∀ x ∈ bs, 0 ≤ x ∧ x < 256) (h : R (oPT bs)) : Box ((t_ptx [.c (.l .u8 bs)] []).run R) := by
  have e := range_n hl
  generalize (fun i => bs.getD i 0) = g at e
  subst e
  have hi := g_in hb
  exact Box.of_eq (ptx_tree g R) ⟨hi 0 (by decide), hi 1 (by decide), hi 2 (by decide), hi 3 (by decide), hi 4 (by decide), hi 5 (by decide), hi 6 (by decide), hi 7 (by decide), hi 8 (by decide), hi 9 (by decide), hi 10 (by decide), hi 11 (by decide), hi 12 (by decide), hi 13 (by decide), hi 14 (by decide), hi 15 (by decide), hi 16 (by decide), hi 17 (by decide), hi 18 (by decide), hi 19 (by decide), h⟩
set_option maxRecDepth 100000 in
theorem kPT : Known Tryz.prog GL 134 tPT := by
  refine k_ptx.less fun args regs R h => Box.out ?_
  unfold tPT at h
  split at h
  case h_2 => exact h.elim
  have h1 := h.1
  have h2 := h.2
  clear h
  exact ptx_in h1.1 h1.2 h2
theorem mapF_stop (g : Nat → Int → Int) (i : Nat) : ∀ (k : Nat) (xs : List Int), k + xs.length ≤ i → mapF g i k xs = xs
  | _, [], _ => rfl
  | k, x :: xs, h => by
    have h : k + (xs.length + 1) ≤ i := h
    show (bif Nat.blt k i then x else _) :: mapF g i (k + 1) xs = _
    rw [blt_t (by omega), mapF_stop g i (k + 1) xs (by omega)]
    rfl
theorem set_self (xs : List Int) (i : Nat) (h : i < xs.length) : xs.set i (xs.getD i 0) = xs := by
  rw [List.getD_eq_getElem?_getD, List.getElem?_eq_getElem h]
  exact List.set_getElem_self h
noncomputable def X_wd : Cx := { P := Tryz.prog, con := fun _ => Option.none, glob := GL, m := 0, loops := [] }
noncomputable def sWd (A : List Int) (B : List (List Sc)) (q q2 : Nat) (n i : Int) : St := { fr := frame 34 [(3, .v (.c (.h 0 0 q))), (4, .v (.c (.h 1 0 q2))), (12, .v (.c (.i .i64 n))), (13, .v (.c (.i .i64 i)))], rg := [some ⟨1, 5, .ints .u8 A⟩, some ⟨1, 4, .recs [.b] B⟩] }
noncomputable def dWd (A : List Int) (q : Nat) : St := { fr := frame 34 [(3, .v (.c (.h 0 0 q)))], rg := [some ⟨1, 5, .ints .u8 A⟩] }
def bW (B : List (List Sc)) (j : Nat) : Bool := ((B.getD j []).getD 0 (Sc.i 0)).t
def inW (A : List Int) (q : Nat) (i : Int) (X : Prop) : Prop := sel (decide (0 ≤ i)) (sel (decide (i < (q : Int))) (sel (decide (0 + i.toNat < A.length)) X False) False) False
def inWB (B : List (List Sc)) (q : Nat) (i : Int) (X : Prop) : Prop := sel (decide (0 ≤ i)) (sel (decide (i < (q : Int))) (sel (decide (0 + i.toNat < B.length)) X False) False) False
theorem round_wd (A : List Int) (B : List (List Sc)) (q q2 : Nat) (n i : Int) (R : RO → Prop) : (roundT X_wd 0 [3, 4, 12, 13] [3] (bodyLoop fWords 0) (sWd A B q q2 n i)).run R =
    sel (decide (i < n)) (inWB B q2 i (sel (!bW B (0 + i.toNat)) (inW A q i (R (.next (sWd (setI A (0 + i.toNat) 32 0) B q q2 n (IntKind.i64.wrap (i + 1)))))) (inW A q i (sel (decide (A.getD (0 + i.toNat) 0 < 32)) (inW A q i (R (.next (sWd (setI A (0 + i.toNat) 32 0) B q q2 n (IntKind.i64.wrap (i + 1)))))) (R (.next (sWd A B q q2 n (IntKind.i64.wrap (i + 1))))))))) (R (.done .normal (dWd A q))) := by kernel_rfl
noncomputable def wdG (B : List (List Sc)) (k : Nat) (x : Int) : Int := bif !bW B k || decide (x < 32) then 32 else x
noncomputable def pWd : List Pat := pats 34 [(3, .h 0 0), (4, .h 1 0), (12, .i .i64), (13, .i .i64)]
def rWd : List RPat := [.ints 1 5 .u8, .recs 1 4 [.b]]
noncomputable def lWd : List Leaf × List (List Leaf) → Tr (NExit × St) := fun x => match x with
  | ([.n q, .n q2, .i n, .i i], [[.l A], [.r B]]) => .must (q = A.length ∧ q2 = A.length ∧ B.length = A.length ∧ n = (A.length : Int) ∧ A.length < 1000 ∧ 0 ≤ i ∧ i ≤ n) (.ret (.normal, dWd (mapF (wdG B) i.toNat 0 A) q))
  | _ => .fail
def muWd : List Leaf × List (List Leaf) → Nat := fun x => match x with
  | ([.n _, .n _, .i n, .i i], _) => (n - i).toNat
  | _ => 0
set_option maxRecDepth 100000 in
theorem loop_wd : LOk Tryz.prog GL 0 0 (bodyLoop fWords 0) (sumP pWd rWd lWd) := by
  refine sumP_ok (X := X_wd) con_none mixed (LAll.none (by kernel_rfl)) [3, 4, 12, 13] [3] _ _ _ muWd ?_
  rintro ⟨p, q⟩ R h
  unfold lWd at h
  split at h
  case h_2 => exact h.elim
  rename_i q q2 n i A B he
  cases he
  have h1 := h.1
  have h2 : R (.normal, dWd (mapF (wdG B) i.toNat 0 A) q) := h.2
  clear h
  obtain ⟨hq, hq2, hB, hn, hA, hi0, hi⟩ := h1
  show (roundT X_wd 0 [3, 4, 12, 13] [3] (bodyLoop fWords 0) (sWd A B q q2 n i)).run _
  rw [round_wd]
  refine sel_by (fun hlt => ?_) fun hge => ?_
  · have w2 : IntKind.i64.wrap (i + 1) = i + 1 := by rw [IntKind.wrap_i64]; omega
    have hx : i.toNat < A.length := by omega
    have et : (i + 1).toNat = i.toNat + 1 := by omega
    rw [w2, Nat.zero_add]
    have iA : ∀ X : Prop, X → inW A q i X := fun X h => selT (dT hi0) (selT (dT (by omega)) (selT (dT (by omega)) h))
    have iB : ∀ X : Prop, X → inWB B q2 i X := fun X h => selT (dT hi0) (selT (dT (by omega)) (selT (dT (by omega)) h))
    have go : ∀ A2 : List Int, A2.length = A.length → mapF (wdG B) (i.toNat + 1) 0 A2 = mapF (wdG B) i.toNat 0 A → ∃ y, sWd A2 B q q2 n (i + 1) = mkSt pWd rWd y ∧ muWd y < muWd ([.n q, .n q2, .i n, .i i], [[.l A], [.r B]]) ∧ (lWd y).run R := by
      intro A2 hl hm
      refine ⟨([.n q, .n q2, .i n, .i (i + 1)], [[.l A2], [.r B]]), rfl, by show (n - (i + 1)).toNat < (n - i).toNat; omega, ⟨by omega, by omega, by omega, by omega, by omega, by omega, by omega⟩, ?_⟩
      show R (.normal, dWd (mapF (wdG B) (i + 1).toNat 0 A2) q)
      rw [et, hm]
      exact h2
    have st : wdG B i.toNat (A.getD i.toNat 0) = 32 → ∃ y, sWd (setI A i.toNat 32 0) B q q2 n (i + 1) = mkSt pWd rWd y ∧ muWd y < muWd ([.n q, .n q2, .i n, .i i], [[.l A], [.r B]]) ∧ (lWd y).run R := fun hg => by
      rw [setI_set]
      exact go _ (List.length_set ..) (mapF_set (wdG B) i.toNat 32 0 A i.toNat (by omega) hx hg.symm)
    refine iB _ ?_
    cases hb : bW B i.toNat with
    | false => exact selT rfl (iA _ (st (by unfold wdG; rw [hb]; rfl)))
    | true =>
      refine selF rfl (iA _ ?_)
      cases hc : decide (A.getD i.toNat 0 < 32) with
      | true => exact selT rfl (iA _ (st (by unfold wdG; rw [hb, hc]; rfl)))
      | false =>
        refine selF rfl (go A rfl ?_)
        have hm := mapF_set (wdG B) i.toNat (A.getD i.toNat 0) 0 A i.toNat (by omega) hx (by unfold wdG; rw [hb, hc]; rfl)
        rwa [set_self A i.toNat hx] at hm
  · have e0 : mapF (wdG B) i.toNat 0 A = A := mapF_stop (wdG B) i.toNat 0 A (by omega)
    rw [e0] at h2
    exact h2
noncomputable def c_wds : FuncId → Option Con := conOf [(134, tPT)]
theorem kc_wds : ∀ f T, c_wds f = some T → Known Tryz.prog GL f T := (Knowns.cons kPT .nil).get
noncomputable def t_wds : Con := fun args regs => if regs.length = 0 then nfun Tryz.prog GL c_wds [(0, [3, 4, 12, 13], sumP pWd rWd lWd)] Tryz.f90 args regs else .fail
theorem k_wds : Known Tryz.prog GL 90 t_wds := known_loops 0 Tryz.func90 rfl (by kernel_rfl) mixed kc_wds (LAll.one (id := 0) (body := bodyLoop Tryz.f90 0) (by kernel_rfl) rfl loop_wd)
noncomputable def sgn (x : Int) : Int := bif !odd x || decide (aU x 127 < 32) then 32 else aU x 127
noncomputable def wdA (bs : List Int) : List Int := bs.map fun x => aU x 127
noncomputable def wdB (bs : List Int) : List (List Sc) := bs.map fun x => [Sc.b (odd x)]
theorem wds_tree (g : Nat → Int) (R : Out → Prop) : (t_wds [.c (.l .u8 ((List.range 20).map g))] []).run R = ((((List.range 20).map g).length = 20 ∧ ∀ x ∈ ((List.range 20).map g), 0 ≤ x ∧ x < 256) ∧ (20 = (wdA ((List.range 20).map g)).length ∧ 20 = (wdA ((List.range 20).map g)).length ∧ (wdB ((List.range 20).map g)).length = (wdA ((List.range 20).map g)).length ∧ 20 = ((wdA ((List.range 20).map g)).length : Int) ∧ (wdA ((List.range 20).map g)).length < 1000 ∧ 0 ≤ (0 : Int) ∧ (0 : Int) ≤ 20) ∧ R ⟨.v (.c (.s (strOfNums (((List.range 20).map g).map sgn)))), []⟩) := by kernel_rfl
noncomputable def tWds : Con := fun args regs => match args, regs with
  | [.c (.l .u8 bs)], [] => .must (bs.length = 20 ∧ ∀ x ∈ bs, 0 ≤ x ∧ x < 256) (.ret ⟨.v (.c (.s (strOfNums (bs.map sgn)))), []⟩)
  | _, _ => .fail
theorem wds_in {bs : List Int} {R : Out → Prop} (hl : bs.length = 20) (hb : ∀ x ∈ bs, 0 ≤ x ∧ x < 256) (h : R ⟨.v (.c (.s (strOfNums (bs.map sgn)))), []⟩) : Box ((t_wds [.c (.l .u8 bs)] []).run R) := by
  have e := range_n hl
  generalize (fun i => bs.getD i 0) = g at e
  subst e
  exact Box.of_eq (wds_tree g R) ⟨⟨hl, hb⟩, ⟨rfl, rfl, rfl, rfl, by show 20 < 1000; decide, by decide, by decide⟩, h⟩
set_option maxRecDepth 100000 in
theorem kWds : Known Tryz.prog GL 90 tWds := by
  refine k_wds.less fun args regs R h => Box.out ?_
  unfold tWds at h
  split at h
  case h_2 => exact h.elim
  have h1 := h.1
  have h2 := h.2
  clear h
  exact wds_in h1.1 h1.2 h2
end Go.Proofs.YtdhhjgplnmpjcaaGreatDoor.sv
namespace Go.Proofs.YtdhhjgplnmpjcaaGreatDoor.sv
open Go Go.Nx Go.Proofs.YtdhhjgplnmpjcaaGreatDoor.pk Go.Proofs.YtdhhjgplnmpjcaaGreatDoor.ln Go.Proofs.YtdhhjgplnmpjcaaGreatDoor.hd Go.Proofs.YtdhhjgplnmpjcaaGreatDoor.lb
noncomputable def infC (a b c n o d h m s : Int) (z : ByteArray) : List NC := [.i .i64 a, .i .i64 b, .i .i64 c, .i .i64 n, .i .i64 o, .i .i64 d, .i .i64 h, .i .i64 m, .i .i64 s, .s z]
def fairV (d h m s : Int) : Bool := decide (d ≥ 0) && (decide (d ≤ 99999) && (decide (h ≥ 0) && (decide (h ≤ 23) && (decide (m ≥ 0) && (decide (m ≤ 59) && (decide (s ≥ 0) && decide (s ≤ 59)))))))
theorem sfair_tree (a b c n o d h m s : Int) (z : ByteArray) (R : Out → Prop) : (t_sfair [.ag (infC a b c n o d h m s z)] []).run R =
    sel (decide (d ≥ 0)) (sel (decide (d ≤ 99999)) (sel (decide (h ≥ 0)) (sel (decide (h ≤ 23)) (sel (decide (m ≥ 0)) (sel (decide (m ≤ 59)) (sel (decide (s ≥ 0)) (R (oB (decide (s ≤ 59)))) (R (oB false))) (R (oB false))) (R (oB false))) (R (oB false))) (R (oB false))) (R (oB false))) (R (oB false)) := by kernel_rfl
noncomputable def tFairV : Con := fun args regs => match args, regs with
  | [.ag [.i .i64 _, .i .i64 _, .i .i64 _, .i .i64 _, .i .i64 _, .i .i64 d, .i .i64 h, .i .i64 m, .i .i64 s, .s _]], [] => .ret (oB (fairV d h m s))
  | _, _ => .fail
theorem and_in {x y : Bool} {R : Out → Prop} {X : Prop} (h : R (oB (x && y))) (hX : R (oB y) → X) : sel x X (R (oB false)) := by
  cases x with
  | true => exact selT rfl (hX h)
  | false => exact selF rfl h
set_option maxRecDepth 100000 in
theorem kFairV : Known Tryz.prog GL 133 tFairV := by
  refine k_sfair.less fun args regs R h => Box.out ?_
  unfold tFairV at h
  split at h
  case h_2 => exact h.elim
  rename_i a b c n o d hr m s z
  have h2 : R (oB (fairV d hr m s)) := h
  clear h
  refine Box.of_eq (sfair_tree a b c n o d hr m s z R) ?_
  unfold fairV at h2
  exact and_in h2 fun h => and_in h fun h => and_in h fun h => and_in h fun h => and_in h fun h => and_in h fun h => and_in h fun h => h
noncomputable def c_clk : FuncId → Option Con := conOf [(84, t_partU), (132, tDigV), (133, tFairV)]
theorem kc_clk : ∀ f T, c_clk f = some T → Known Tryz.prog GL f T := (Knowns.cons k_partU (.cons kDigV (.cons kFairV .nil))).get
noncomputable def t_clk : Con := fun args regs => if regs.length = 1 then nfun Tryz.prog GL c_clk [] Tryz.f89 args regs else .fail
theorem k_clk : Known Tryz.prog GL 89 t_clk := known_loops 1 Tryz.func89 rfl (by kernel_rfl) mixed kc_clk (LAll.none (by kernel_rfl))
def mDg (bs : List Int) (k : Int) : Prop := bs.length < 1000 ∧ 0 ≤ k ∧ k ≤ 2 * (bs.length : Int)
noncomputable def vD (bs : List Int) (k : Int) : Int := bif okD bs k then vaD bs k else 0
noncomputable def oClk (a b e n o : Int) (z : ByteArray) (D H M S : Int) (x : Bool) : Out := ⟨.v (.c (.b x)), [some ⟨10, 82, .cells (infC a b e n o D H M S z)⟩]⟩
noncomputable def clkG (g : Nat → Int) : Bool := okD [g 9, g 10, g 11] 1 && (okD [g 12] 0 && (okD [g 13] 0 && (okD [g 14] 0 && fairV (vD [g 9, g 10, g 11] 1) (vD [g 12] 0) (vD [g 13] 0) (vD [g 14] 0))))
noncomputable def oCk (a b e n o : Int) (z : ByteArray) (g : Nat → Int) (x : Bool) : Out := oClk a b e n o z (vD [g 9, g 10, g 11] 1) (vD [g 12] 0) (vD [g 13] 0) (vD [g 14] 0) x
theorem clk_tree (g : Nat → Int) (m r k c a b e n o d h mi s : Int) (z : ByteArray) (R : Out → Prop) : (t_clk [.c (.p 0 0 0), .ag [.i .i64 m, .i .i64 r, .i .i64 k, .i .i64 c, .l .u8 ((List.range 39).map g)]] [⟨10, 82, .cells (infC a b e n o d h mi s z)⟩]).run R =
    (mDg [g 9, g 10, g 11] 1 ∧ (mDg [g 12] 0 ∧ (mDg [g 13] 0 ∧ (mDg [g 14] 0 ∧ sel (okD [g 9, g 10, g 11] 1) (sel (okD [g 12] 0) (sel (okD [g 13] 0) (sel (okD [g 14] 0) (R (oCk a b e n o z g (fairV (vD [g 9, g 10, g 11] 1) (vD [g 12] 0) (vD [g 13] 0) (vD [g 14] 0)))) (R (oCk a b e n o z g false))) (R (oCk a b e n o z g false))) (R (oCk a b e n o z g false))) (R (oCk a b e n o z g false)))))) := by kernel_rfl
noncomputable def gD (ds : List Int) : Nat → Int := fun i => ds.getD i 0
noncomputable def tClk : Con := fun args regs => match args, regs with
  | [.c (.p 0 0 0), .ag [.i .i64 _, .i .i64 _, .i .i64 _, .i .i64 _, .l .u8 ds]], [⟨10, 82, .cells [.i .i64 a, .i .i64 b, .i .i64 e, .i .i64 n, .i .i64 o, .i .i64 _, .i .i64 _, .i .i64 _, .i .i64 _, .s z]⟩] => .must (ds.length = 39) (.ret (oCk a b e n o z (gD ds) (clkG (gD ds))))
  | _, _ => .fail
theorem mDg3 (a b c : Int) : mDg [a, b, c] 1 := ⟨by show 3 < 1000; decide, by decide, by show (1 : Int) ≤ 2 * 3; decide⟩
theorem mDg1 (a : Int) : mDg [a] 0 := ⟨by show 1 < 1000; decide, by decide, by show (0 : Int) ≤ 2 * 1; decide⟩
theorem ck_in {x y : Bool} {F : Bool → Prop} {X : Prop} (h : F (x && y)) (hX : F y → X) : sel x X (F false) := by
  cases x with
  | true => exact selT rfl (hX h)
  | false => exact selF rfl h
theorem clk_in {ds : List Int} {m r k c a b e n o d h mi s : Int} {z : ByteArray} {R : Out → Prop} (hl : ds.length = 39) (hR : R (oCk a b e n o z (gD ds) (clkG (gD ds)))) : Box ((t_clk [.c (.p 0 0 0), .ag [.i .i64 m, .i .i64 r, .i .i64 k, .i .i64 c, .l .u8 ds]] [⟨10, 82, .cells (infC a b e n o d h mi s z)⟩]).run R) := by
  have eq := range_n hl
  have eg : (fun i => ds.getD i 0) = gD ds := rfl
  rw [eg] at eq
  generalize gD ds = g at eq hR
  subst eq
  refine Box.of_eq (clk_tree g m r k c a b e n o d h mi s z R) ⟨mDg3 _ _ _, mDg1 _, mDg1 _, mDg1 _, ?_⟩
  unfold clkG at hR
  exact ck_in (F := fun x => R (oCk a b e n o z g x)) hR fun h => ck_in (F := fun x => R (oCk a b e n o z g x)) h fun h => ck_in (F := fun x => R (oCk a b e n o z g x)) h fun h => ck_in (F := fun x => R (oCk a b e n o z g x)) h fun h => h
set_option maxRecDepth 100000 in
theorem kClk : Known Tryz.prog GL 89 tClk := by
  refine k_clk.less fun args regs R h => Box.out ?_
  unfold tClk at h
  split at h
  case h_2 => exact h.elim
  exact clk_in h.1 h.2
def partL (ds : List Int) (f n : Int) : List Int := (List.range n.toNat).map fun i => ds.getD (f.toNat + i) 0
noncomputable def oPt (ds : List Int) (f n : Int) : Out := ⟨.v (.c (.h 0 0 n.toNat)), [some ⟨1, 5, .ints .u8 (partL ds f n)⟩]⟩
theorem part_0 (m r k c : Int) (g : Nat → Int) (R : Out → Prop) : (t_partU [.ag [.i .i64 m, .i .i64 r, .i .i64 k, .i .i64 c, .l .u8 ((List.range 39).map g)], .c (.i .i64 0), .c (.i .i64 6)] []).run R = R (oPt ((List.range 39).map g) 0 6) := by kernel_rfl
theorem part_19 (m r k c : Int) (g : Nat → Int) (R : Out → Prop) : (t_partU [.ag [.i .i64 m, .i .i64 r, .i .i64 k, .i .i64 c, .l .u8 ((List.range 39).map g)], .c (.i .i64 19), .c (.i .i64 20)] []).run R = R (oPt ((List.range 39).map g) 19 20) := by kernel_rfl
theorem part_9 (m r k c : Int) (g : Nat → Int) (R : Out → Prop) : (t_partU [.ag [.i .i64 m, .i .i64 r, .i .i64 k, .i .i64 c, .l .u8 ((List.range 39).map g)], .c (.i .i64 9), .c (.i .i64 3)] []).run R = R (oPt ((List.range 39).map g) 9 3) := by kernel_rfl
theorem part_12 (m r k c : Int) (g : Nat → Int) (R : Out → Prop) : (t_partU [.ag [.i .i64 m, .i .i64 r, .i .i64 k, .i .i64 c, .l .u8 ((List.range 39).map g)], .c (.i .i64 12), .c (.i .i64 3)] []).run R = R (oPt ((List.range 39).map g) 12 3) := by kernel_rfl
noncomputable def tPartV : Con := fun args regs => match args, regs with
  | [.ag [.i .i64 _, .i .i64 _, .i .i64 _, .i .i64 _, .l .u8 ds], .c (.i .i64 f), .c (.i .i64 n)], [] => .must (ds.length = 39 ∧ ((f = 0 ∧ n = 6) ∨ (f = 19 ∧ n = 20) ∨ (f = 9 ∧ n = 3) ∨ (f = 12 ∧ n = 3))) (.ret (oPt ds f n))
  | _, _ => .fail
theorem part_in {m r k c f n : Int} {ds : List Int} {R : Out → Prop} (hl : ds.length = 39) (hf : (f = 0 ∧ n = 6) ∨ (f = 19 ∧ n = 20) ∨ (f = 9 ∧ n = 3) ∨ (f = 12 ∧ n = 3)) (h : R (oPt ds f n)) : Box ((t_partU [.ag [.i .i64 m, .i .i64 r, .i .i64 k, .i .i64 c, .l .u8 ds], .c (.i .i64 f), .c (.i .i64 n)] []).run R) := by
  have e := range_n hl
  generalize (fun i => ds.getD i 0) = g at e
  subst e
  rcases hf with ⟨rfl, rfl⟩ | ⟨rfl, rfl⟩ | ⟨rfl, rfl⟩ | ⟨rfl, rfl⟩
  · exact Box.of_eq (part_0 m r k c g R) h
  · exact Box.of_eq (part_19 m r k c g R) h
  · exact Box.of_eq (part_9 m r k c g R) h
  · exact Box.of_eq (part_12 m r k c g R) h
set_option maxRecDepth 100000 in
theorem kPartV : Known Tryz.prog GL 84 tPartV := by
  refine k_partU.less fun args regs R h => Box.out ?_
  unfold tPartV at h
  split at h
  case h_2 => exact h.elim
  have h1 := h.1
  have h2 := h.2
  clear h
  exact part_in h1.1 h1.2 h2
theorem at_6 (m r k c : Int) (g : Nat → Int) (R : Out → Prop) : (t_at [.ag [.i .i64 m, .i .i64 r, .i .i64 k, .i .i64 c, .l .u8 ((List.range 39).map g)], .c (.i .i64 6)] []).run R = R ⟨.v (.c (.i .u8 (((List.range 39).map g).getD 6 0))), []⟩ := by kernel_rfl
theorem at_7 (m r k c : Int) (g : Nat → Int) (R : Out → Prop) : (t_at [.ag [.i .i64 m, .i .i64 r, .i .i64 k, .i .i64 c, .l .u8 ((List.range 39).map g)], .c (.i .i64 7)] []).run R = R ⟨.v (.c (.i .u8 (((List.range 39).map g).getD 7 0))), []⟩ := by kernel_rfl
theorem at_8 (m r k c : Int) (g : Nat → Int) (R : Out → Prop) : (t_at [.ag [.i .i64 m, .i .i64 r, .i .i64 k, .i .i64 c, .l .u8 ((List.range 39).map g)], .c (.i .i64 8)] []).run R = R ⟨.v (.c (.i .u8 (((List.range 39).map g).getD 8 0))), []⟩ := by kernel_rfl
noncomputable def tAtV : Con := fun args regs => match args, regs with
  | [.ag [.i .i64 _, .i .i64 _, .i .i64 _, .i .i64 _, .l .u8 ds], .c (.i .i64 k)], [] => .must (ds.length = 39 ∧ (k = 6 ∨ k = 7 ∨ k = 8)) (.ret ⟨.v (.c (.i .u8 (ds.getD k.toNat 0))), []⟩)
  | _, _ => .fail
theorem at_in {m r kd c k : Int} {ds : List Int} {R : Out → Prop} (hl : ds.length = 39) (hf : k = 6 ∨ k = 7 ∨ k = 8) (h : R ⟨.v (.c (.i .u8 (ds.getD k.toNat 0))), []⟩) : Box ((t_at [.ag [.i .i64 m, .i .i64 r, .i .i64 kd, .i .i64 c, .l .u8 ds], .c (.i .i64 k)] []).run R) := by
  have e := range_n hl
  generalize (fun i => ds.getD i 0) = g at e
  subst e
  rcases hf with rfl | rfl | rfl
  · exact Box.of_eq (at_6 m r kd c g R) h
  · exact Box.of_eq (at_7 m r kd c g R) h
  · exact Box.of_eq (at_8 m r kd c g R) h
set_option maxRecDepth 100000 in
theorem kAtV : Known Tryz.prog GL 88 tAtV := by
  refine k_at.less fun args regs R h => Box.out ?_
  unfold tAtV at h
  split at h
  case h_2 => exact h.elim
  have h1 := h.1
  have h2 := h.2
  clear h
  exact at_in h1.1 h1.2 h2
noncomputable def c_srd : FuncId → Option Con := conOf [(84, tPartV), (75, tOpn), (85, t_of), (86, tLMag), (87, tTurn), (88, tAtV), (89, tClk), (90, tWds)]
theorem kc_srd : ∀ f T, c_srd f = some T → Known Tryz.prog GL f T := (Knowns.cons kPartV (.cons kOpn (.cons k_of (.cons kLMag (.cons kTurn (.cons kAtV (.cons kClk (.cons kWds .nil)))))))).get
noncomputable def t_srd : Con := fun args regs => nfun Tryz.prog GL c_srd [] Tryz.f36 args regs
theorem k_srd : Known Tryz.prog GL 36 t_srd := known_inl Tryz.func36 rfl (by kernel_rfl) mixed kc_srd (by kernel_rfl)
end Go.Proofs.YtdhhjgplnmpjcaaGreatDoor.sv
namespace Go.Proofs.YtdhhjgplnmpjcaaGreatDoor.sv
open Go Go.Nx Go.Proofs.YtdhhjgplnmpjcaaGreatDoor.pk Go.Proofs.YtdhhjgplnmpjcaaGreatDoor.ln Go.Proofs.YtdhhjgplnmpjcaaGreatDoor.hd Go.Proofs.YtdhhjgplnmpjcaaGreatDoor.lb
noncomputable def nb (ds : List Int) (i : Nat) : Int := getN (ds.getD i 0)
noncomputable def mgV (ds : List Int) : Int := magOf (oI (shrv .i64 (nb ds 3) 3) (shlv .i64 (shrv .i64 (nb ds 5) 2) 1))
noncomputable def pgV (ds : List Int) : Int := oI (nb ds 0) (shlv .i64 (nb ds 1) 4)
noncomputable def sbV (ds : List Int) : Int := oI (oI (oI (nb ds 2) (shlv .i64 (aI (nb ds 3) 7) 4)) (shlv .i64 (nb ds 4) 8)) (shlv .i64 (aI (nb ds 5) 3) 12)
noncomputable def nwV (ds : List Int) : Int := oI (shlv .i64 (IntKind.i64.wrap (rv (ds.getD 6 0))) 8) (IntKind.i64.wrap (rv (ds.getD 7 0)))
noncomputable def ofV (ds : List Int) : Int := aI (shrv .i64 (IntKind.i64.wrap (ds.getD 8 0)) 1) 31
noncomputable def sgV (ds : List Int) : Bool := aI (shrv .i64 (IntKind.i64.wrap (ds.getD 8 0)) 6) 1 == 1
noncomputable def dyV (ds : List Int) : Int := vD [gD ds 9, gD ds 10, gD ds 11] 1
noncomputable def hrV (ds : List Int) : Int := vD [gD ds 12] 0
noncomputable def miV (ds : List Int) : Int := vD [gD ds 13] 0
noncomputable def seV (ds : List Int) : Int := vD [gD ds 14] 0
noncomputable def txV (ds : List Int) : ByteArray := strOfNums ((partL ds 19 20).map sgn)
noncomputable def oIn (ds : List Int) (of : Int) : Out := ⟨.tu [.ag (infC (mgV ds) (pgV ds) (sbV ds) (nwV ds) of (dyV ds) (hrV ds) (miV ds) (seV ds) (txV ds)), .c .en], []⟩
def oIE (k : Nat) : Out := ⟨.tu [.ag [.i .i64 0, .i .i64 0, .i .i64 0, .i .i64 0, .i .i64 0, .i .i64 0, .i .i64 0, .i .i64 0, .i .i64 0, .s ⟨#[]⟩], .c (.e k)], []⟩
noncomputable def all6 (ds : List Int) : Bool := [ds.getD 0 0, ds.getD 1 0, ds.getD 2 0, ds.getD 3 0, ds.getD 4 0, ds.getD 5 0].all getB
def mPt (ds : List Int) (f n : Int) : Prop := ds.length = 39 ∧ ((f = 0 ∧ n = 6) ∨ (f = 19 ∧ n = 20) ∨ (f = 9 ∧ n = 3) ∨ (f = 12 ∧ n = 3))
def mAt (ds : List Int) (k : Int) : Prop := ds.length = 39 ∧ (k = 6 ∨ k = 7 ∨ k = 8)
def mBy (x : Int) : Prop := 0 ≤ x ∧ x < 256
noncomputable def rdE (ds : List Int) (of : Int) (R : Out → Prop) : Prop := ds.length = 39 ∧ sel (!clkG (gD ds)) (R (oIE eRng)) (mPt ds 19 20 ∧ (((partL ds 19 20).length = 20 ∧ ∀ x ∈ partL ds 19 20, 0 ≤ x ∧ x < 256) ∧ R (oIn ds of)))
noncomputable def rdX (ds : List Int) (R : Out → Prop) : Prop :=
  mPt ds 0 6 ∧ sel (all6 ds) (mAt ds 6 ∧ (mBy (ds.getD 6 0) ∧ (mAt ds 7 ∧ (mBy (ds.getD 7 0) ∧ (mAt ds 8 ∧ sel (sgV ds) (rdE ds (IntKind.i64.wrap (0 - ofV ds)) R) (rdE ds (ofV ds) R)))))) (R (oIE eBit))
theorem srd_tree (m r k c : Int) (ds : List Int) (R : Out → Prop) : (t_srd [.ag [.i .i64 m, .i .i64 r, .i .i64 k, .i .i64 c, .l .u8 ds]] []).run R =
    sel (k != 7) (R (oIE eKnd)) (sel (m != 8) (R (oIE eKnd)) (sel (c != 0) (sel (c != 1) (R (oIE eKnd)) (rdX ds R)) (rdX ds R))) := by kernel_rfl
def okK (m k c : Int) : Bool := k == 7 && (m == 8 && (c == 0 || c == 1))
noncomputable def ofS (ds : List Int) : Int := bif sgV ds then IntKind.i64.wrap (0 - ofV ds) else ofV ds
noncomputable def tSrd : Con := fun args regs => match args, regs with
  | [.ag [.i .i64 m, .i .i64 _, .i .i64 k, .i .i64 c, .l .u8 ds]], [] => .must (okK m k c = true → ds.length = 39 ∧ ∀ x ∈ ds, 0 ≤ x ∧ x < 256) (.br (okK m k c) (.br (all6 ds) (.br (clkG (gD ds)) (.ret (oIn ds (ofS ds))) (.ret (oIE eRng))) (.ret (oIE eBit))) (.ret (oIE eKnd)))
  | _, _ => .fail
theorem get_in {ds : List Int} (h : ∀ x ∈ ds, 0 ≤ x ∧ x < 256) (j : Nat) : 0 ≤ ds.getD j 0 ∧ ds.getD j 0 < 256 := by
  rw [List.getD_eq_getElem?_getD]
  cases e : ds[j]? with
  | none => exact ⟨by decide, by decide⟩
  | some x => exact h x (List.mem_of_getElem? e)
theorem part_by {ds : List Int} (h : ∀ x ∈ ds, 0 ≤ x ∧ x < 256) (f n : Int) : ∀ x ∈ partL ds f n, 0 ≤ x ∧ x < 256 := by
  intro x hx
  unfold partL at hx
  rw [List.mem_map] at hx
  obtain ⟨i, _, rfl⟩ := hx
  exact get_in h _
theorem rdE_in {ds : List Int} {of : Int} {R : Out → Prop} (hl : ds.length = 39) (hb : ∀ x ∈ ds, 0 ≤ x ∧ x < 256) (h : sel (clkG (gD ds)) (R (oIn ds of)) (R (oIE eRng))) : rdE ds of R := by
  refine ⟨hl, ?_⟩
  cases e : clkG (gD ds) with
  | true => rw [e] at h; exact selF rfl ⟨⟨hl, .inr (.inl ⟨rfl, rfl⟩)⟩, ⟨rfl, part_by hb _ _⟩, h⟩
  | false => rw [e] at h; exact selT rfl h
theorem rdX_in {ds : List Int} {R : Out → Prop} (hl : ds.length = 39) (hb : ∀ x ∈ ds, 0 ≤ x ∧ x < 256) (h : sel (all6 ds) (sel (clkG (gD ds)) (R (oIn ds (ofS ds))) (R (oIE eRng))) (R (oIE eBit))) : rdX ds R := by
  refine ⟨⟨hl, .inl ⟨rfl, rfl⟩⟩, ?_⟩
  cases e : all6 ds with
  | false => rw [e] at h; exact selF rfl h
  | true =>
    rw [e] at h
    refine selT rfl ⟨⟨hl, .inl rfl⟩, get_in hb 6, ⟨hl, .inr (.inl rfl)⟩, get_in hb 7, ⟨hl, .inr (.inr rfl)⟩, ?_⟩
    unfold ofS at h
    cases es : sgV ds with
    | true => rw [es] at h; exact selT rfl (rdE_in hl hb h)
    | false => rw [es] at h; exact selF rfl (rdE_in hl hb h)
theorem srd_in {m k c : Int} {ds : List Int} {R : Out → Prop} (hm : okK m k c = true → ds.length = 39 ∧ ∀ x ∈ ds, 0 ≤ x ∧ x < 256) (h : sel (okK m k c) (sel (all6 ds) (sel (clkG (gD ds)) (R (oIn ds (ofS ds))) (R (oIE eRng))) (R (oIE eBit))) (R (oIE eKnd))) :
    sel (k != 7) (R (oIE eKnd)) (sel (m != 8) (R (oIE eKnd)) (sel (c != 0) (sel (c != 1) (R (oIE eKnd)) (rdX ds R)) (rdX ds R))) := by
  unfold okK at hm h
  cases e1 : (k == 7) with
  | false => rw [e1] at h; exact selT (by simp [bne, e1]) h
  | true =>
    rw [e1] at h hm
    refine selF (by simp [bne, e1]) ?_
    cases e2 : (m == 8) with
    | false => rw [e2] at h; exact selT (by simp [bne, e2]) h
    | true =>
      rw [e2] at h hm
      refine selF (by simp [bne, e2]) ?_
      cases e3 : (c == 0) with
      | true =>
        rw [e3] at h hm
        exact selF (by simp [bne, e3]) (rdX_in (hm rfl).1 (hm rfl).2 h)
      | false =>
        rw [e3] at h hm
        refine selT (by simp [bne, e3]) ?_
        cases e4 : (c == 1) with
        | true =>
          rw [e4] at h hm
          exact selF (by simp [bne, e4]) (rdX_in (hm rfl).1 (hm rfl).2 h)
        | false => rw [e4] at h; exact selT (by simp [bne, e4]) h
set_option maxRecDepth 100000 in
theorem kSrd : Known Tryz.prog GL 36 tSrd := by
  refine k_srd.less fun args regs R h => Box.out ?_
  unfold tSrd at h
  split at h
  case h_2 => exact h.elim
  rename_i m r k c ds
  have h1 := h.1
  have h2 := h.2
  clear h
  exact Box.of_eq (srd_tree m r k c ds R) (srd_in h1 h2)
end Go.Proofs.YtdhhjgplnmpjcaaGreatDoor.sv
namespace Go.Proofs.YtdhhjgplnmpjcaaGreatDoor.sv
open Go Go.Nx Go.Proofs.YtdhhjgplnmpjcaaGreatDoor.pk Go.Proofs.YtdhhjgplnmpjcaaGreatDoor.ln Go.Proofs.YtdhhjgplnmpjcaaGreatDoor.hd Go.Proofs.YtdhhjgplnmpjcaaGreatDoor.lb
noncomputable def u8i (n : Int) : Int := IntKind.u8.wrap n
noncomputable def two (x : Int) : Int := u8i (IntKind.i64.wrap (bits .or .i64 (shlv .i64 (IntKind.i64.wrap (IntKind.i64.wrap (x.tdiv 10) + 1)) 4) (x.tmod 10) + 1))
noncomputable def mx (o : Int) : Int := bif decide (IntKind.i64.wrap (0 - o) > o) then IntKind.i64.wrap (0 - o) else o
noncomputable def ofB (neg : Bool) (o : Int) : Int := bif neg then oU (u8i (shlv .i64 (mx o) 1)) 64 else u8i (shlv .i64 (mx o) 1)
noncomputable def hd7 (a b e : Int) : List Int := [put 0, put (aI b 15), put (shrv .i64 b 4), put (aI e 15), put (oI (aI (shrv .i64 e 4) 7) (shlv .i64 (aI (aI a 7) 1) 3)), put (aI (shrv .i64 e 8) 15), put (oI (aI (shrv .i64 e 12) 3) (shlv .i64 (shrv .i64 (aI a 7) 1) 2))]
noncomputable def md9 (neg : Bool) (n o d h mi s : Int) : List Int := [rv (u8i (shrv .i64 n 8)), rv (u8i n), ofB neg o, u8i (IntKind.i64.wrap (IntKind.i64.wrap (d.tdiv 10000) + 1)), two ((IntKind.i64.wrap (d.tdiv 100)).tmod 100), two (d.tmod 100), two h, two mi, two s, 0, 0, 0, 0]
noncomputable def LB (neg : Bool) (a b e n o d h mi s : Int) (z : ByteArray) : List Int := 21 :: 234 :: (hd7 a b e ++ (md9 neg n o d h mi s ++ txA z 20))
noncomputable def c_same : FuncId → Option Con := conOf [(22, tSamePT)]
theorem kc_same : ∀ f T, c_same f = some T → Known Tryz.prog GL f T := (Knowns.cons kSamePT .nil).get
end Go.Proofs.YtdhhjgplnmpjcaaGreatDoor.sv
namespace Go.Proofs.YtdhhjgplnmpjcaaGreatDoor.mac
open Go Go.Nx Go.Proofs.YtdhhjgplnmpjcaaGreatDoor.pk Go.Proofs.YtdhhjgplnmpjcaaGreatDoor.ac Go.Proofs.YtdhhjgplnmpjcaaGreatDoor.sto Go.Proofs.YtdhhjgplnmpjcaaGreatDoor.pge Go.Proofs.YtdhhjgplnmpjcaaGreatDoor.dec
noncomputable def Mv.part (m : Mv) (p : Px) : Mv :=
  match p.kd == 2 with
  | true => m.with (rowP m.p p.row p.ds)
  | false => match p.kd == 3 with
    | true => m.extra p
    | false => match p.kd == 4 with
      | true => m.linked p
      | false => match p.kd == 5 && tr.regB p.kd p.cd p.ds with
        | true => m.with { m.p with df := IntKind.i64.wrap (1 + rgN p.kd p.cd p.ds) }
        | false => m
noncomputable def Mc.insM (M : Mc) (g : Nat) (p : Px) : Mc := match (M.v g).opn with
  | true => M.withV g ((M.v g).part p)
  | false => M
theorem rowP_fits {p : Pg} {row : Int} {ds : List Int} (h : fits p) : fits (rowP p row ds) := by
  unfold rowP
  split <;> exact h
theorem exV_len {n : Nat} {E l : List (List Sc)} (hn : n < 16) (hE : E.length ≤ 208) : (exV n E l).length ≤ 208 := by
  have lP := padE_length (13 * (n + 1)) E
  unfold exV
  rw [splice_len13, splice_len13]
  · omega
  · rw [List.length_replicate]; omega
  · rw [splice_len13 (by rw [List.length_replicate]; omega), List.length_take]; omega
theorem extraP_fits {p : Pg} {c : Int} {l : List (List Sc)} (h : fits p) : fits (extraP p c l) := by
  unfold extraP
  split
  · rename_i hc
    have hc := of_decide_eq_true hc
    exact exV_len (by omega) h
  · exact h
theorem part_fits {m : Mv} {p : Px} (h : fits m.p) : fits (m.part p).p := by
  unfold Mv.part
  split
  · exact rowP_fits h
  · split
    · unfold Mv.extra
      split
      · exact extraP_fits h
      · exact h
    · split
      · unfold Mv.linked
        split <;> exact h
      · split <;> exact h
theorem part_txt (m : Mv) (p : Px) : (m.part p).t = m.t := by
  unfold Mv.part
  split
  · rfl
  · split
    · unfold Mv.extra
      split <;> rfl
    · split
      · unfold Mv.linked
        split <;> rfl
      · split <;> rfl
theorem insM_good {M : Mc} (h : M.good) {g : Nat} (hg : g < 9) (p : Px) : (M.insM g p).good := by
  unfold Mc.insM
  split
  · exact h.upd hg (part_fits (h.vfit g)) (by rw [part_txt]; exact h.txt g)
  · exact h
theorem inT_of {M : Mc} {g : Nat} {row kd cd : Int} {ds : List Int} {R : Out → Prop} (hM : M.good) (hl : kd = 3 ∨ kd = 4 ∨ kd = 5 → ds.length = 39) (hb : ∀ b ∈ ds, 0 ≤ b ∧ b < 256) (h : R (oMe (M.insM g ⟨g, row, kd, cd, ds⟩) .en)) : inT M g row kd cd ds R := by
  have hf := hM.vfit g
  have hf' : (M.v g).p.ex.length ≤ 208 := hf
  unfold inT
  unfold Mc.insM at h
  cases ho : (M.v g).opn with
  | false => rw [ho] at h; exact sT rfl h
  | true =>
    rw [ho] at h
    refine sF rfl ?_
    have h : R (oMe (M.withV g ((M.v g).part ⟨g, row, kd, cd, ds⟩)) .en) := h
    unfold Mv.part at h
    simp only at h
    cases h2 : (kd == 2) with
    | true => rw [h2] at h; exact sT rfl ⟨⟨rfl, by omega, hb⟩, h⟩
    | false =>
      rw [h2] at h
      refine sF rfl ?_
      cases h3 : (kd == 3) with
      | true =>
        rw [h3] at h
        have e3 := eq_of_beq h3
        exact sT rfl ⟨⟨⟨rfl, rfl⟩, ⟨e3, hl (.inl e3), hb⟩, hf⟩, h⟩
      | false =>
        rw [h3] at h
        refine sF rfl ?_
        cases h4 : (kd == 4) with
        | true =>
          rw [h4] at h
          have e4 := eq_of_beq h4
          exact sT rfl ⟨⟨⟨rfl, rfl⟩, e4, hl (.inr (.inl e4))⟩, h⟩
        | false =>
          rw [h4] at h
          refine sF rfl ?_
          cases h5 : (kd == 5) with
          | true =>
            rw [h5, Bool.true_and] at h
            have hl5 := hl (.inr (.inr (eq_of_beq h5)))
            refine sT rfl ⟨⟨by omega, by omega, hb⟩, ?_⟩
            cases hr : tr.regB kd cd ds with
            | true => rw [hr] at h; exact sT rfl h
            | false =>
              rw [hr] at h
              have h : R (oMe (M.withV g (M.v g)) .en) := h
              rw [withV_self] at h
              exact sF rfl h
          | false =>
            rw [h5, Bool.false_and] at h
            have h : R (oMe (M.withV g (M.v g)) .en) := h
            rw [withV_self] at h
            exact sF rfl h
noncomputable def tIn : Con := fun args regs => match args with
  | [.c (.p 0 0 0), v] => (match rdPv v with
    | some p => onM regs fun M => .must (args = [.c (.p 0 0 0), p.nv] ∧ (1 ≤ p.mg ∧ p.mg ≤ 8) ∧ M.good ∧ (p.kd = 3 ∨ p.kd = 4 ∨ p.kd = 5 → p.ds.length = 39) ∧ ∀ b ∈ p.ds, 0 ≤ b ∧ b < 256) (.ret (oMe (M.insM p.mg.toNat p) .en))
    | none => .fail)
  | _ => .fail
attribute [local irreducible] t_inC in
set_option maxRecDepth 100000 in
theorem kIn : Known Tryz.prog GL 37 tIn := by
  refine k_inC.less fun args regs R h => ?_
  unfold tIn at h
  split at h
  case h_2 => exact h.elim
  split at h
  case h_2 => exact h.elim
  rename_i p _
  obtain ⟨M, rfl, hM, ⟨h1, hg, hgd, hl, hb⟩, h⟩ := onM_elim h
  rw [h1]
  obtain ⟨g, row, kd, cd, ds⟩ := p
  have hg : g = 1 ∨ g = 2 ∨ g = 3 ∨ g = 4 ∨ g = 5 ∨ g = 6 ∨ g = 7 ∨ g = 8 := by have := hg.1; have := hg.2; simp only at *; omega
  rcases hg with rfl | rfl | rfl | rfl | rfl | rfl | rfl | rfl
  · exact (in_tree1 M row kd cd ds R).mpr (inT_of hgd hl hb h)
  · exact (in_tree2 M row kd cd ds R).mpr (inT_of hgd hl hb h)
  · exact (in_tree3 M row kd cd ds R).mpr (inT_of hgd hl hb h)
  · exact (in_tree4 M row kd cd ds R).mpr (inT_of hgd hl hb h)
  · exact (in_tree5 M row kd cd ds R).mpr (inT_of hgd hl hb h)
  · exact (in_tree6 M row kd cd ds R).mpr (inT_of hgd hl hb h)
  · exact (in_tree7 M row kd cd ds R).mpr (inT_of hgd hl hb h)
  · exact (in_tree8 M row kd cd ds R).mpr (inT_of hgd hl hb h)
noncomputable def tRdQ (q : PkR) : Con := fun args regs => match args, regs with
  | [.c (.l _ bs)], [] => .must (args = [.c (.l .u8 bs)] ∧ pkV bs = q) (.ret q.out)
  | [.c .sn], [] => .must (q = .bad eLen) (.ret q.out)
  | _, _ => .fail
theorem kRdQ (q : PkR) : Known Tryz.prog GL 33 (tRdQ q) := by
  refine kRdS.less fun args regs R h => ?_
  unfold tRdQ at h
  split at h
  case h_3 => exact h.elim
  case h_1 =>
    obtain ⟨⟨h1, h2⟩, h⟩ := h
    rw [h1]
    subst h2
    exact h
  case h_2 =>
    obtain ⟨h1, h⟩ := h
    subst h1
    exact h
noncomputable def c_pk (q : PkR) : FuncId → Option Con := conOf [(33, tRdQ q), (34, tHd), (35, tr.tRegion), (36, sv.tSrd), (37, tIn)]
theorem kc_pk (q : PkR) : ∀ f T, c_pk q f = some T → Known Tryz.prog GL f T := (Knowns.cons (kRdQ q) (.cons kHd (.cons tr.kRegion (.cons sv.kSrd (.cons kIn .nil))))).get
noncomputable def t_pk0 (q : PkR) : Con := fun args regs => nfun Tryz.prog GL (c_pk q) [] Tryz.f12 args regs
theorem k_pk0 (q : PkR) : KnownF Tryz.prog GL 12 (t_pk0 q) := known_inlF Tryz.func12 rfl (by kernel_rfl) mixed (kc_pk q) (by kernel_rfl)
noncomputable def t_pkC (q : PkR) : Con := softT [] [] [] [] 9 (canonT 8 [(1, 2, ordReg [])] none (t_pk0 q))
theorem k_pkC (q : PkR) : Known Tryz.prog GL 12 (t_pkC q) := ((k_pk0 q).canon 8 [(1, 2, ordReg [])] none).soft [] [] [] [] 9
end Go.Proofs.YtdhhjgplnmpjcaaGreatDoor.mac
namespace Go.Proofs.YtdhhjgplnmpjcaaGreatDoor.mac
open Go Go.Nx Go.Proofs.YtdhhjgplnmpjcaaGreatDoor.pk Go.Proofs.YtdhhjgplnmpjcaaGreatDoor.ac Go.Proofs.YtdhhjgplnmpjcaaGreatDoor.sto Go.Proofs.YtdhhjgplnmpjcaaGreatDoor.pge Go.Proofs.YtdhhjgplnmpjcaaGreatDoor.dec
noncomputable def ixV (ds : List Int) : Ix := ⟨sv.mgV ds, sv.pgV ds, sv.sbV ds, sv.nwV ds, sv.ofS ds, sv.dyV ds, sv.hrV ds, sv.miV ds, sv.seV ds, sv.txV ds, true⟩
noncomputable def pkT (M : Mc) (g : Nat) (row kd cd : Int) (ds : List Int) (R : Out → Prop) : Prop :=
  sel (kd == 1) ((inM M = inM (bk M) ∧ (bk M).ok) ∧ ([NV.c (.p 0 0 0), (⟨(g : Int), row, kd, cd, ds⟩ : Px).nv] = [.c (.p 0 0 0), (⟨(g : Int), row, 1, cd, ds⟩ : Px).nv] ∧ (1 ≤ (g : Int) ∧ (g : Int) ≤ 8) ∧ (bk M).good ∧ ds.length = 40 ∧ ∀ b ∈ ds, 0 ≤ b ∧ b < 256) ∧
      sel (hdOk ds) (R (oMe ((bk M).hdM g ds) .en)) (R (oMe (bk M) (.e eBit))))
    (sel (kd == 6) (rgT kd cd ds (R (oMe (M.withV g { M.v g with rg := rgN kd cd ds, td := true }) .en)) (R (oMe M .en)))
    (sel (kd == 7) ((sv.okK g kd cd = true → ds.length = 39 ∧ ∀ x ∈ ds, 0 ≤ x ∧ x < 256) ∧ sel (sv.okK g kd cd) (sel (sv.all6 ds) (sel (sv.clkG (sv.gD ds)) (R (oMe { M with inf := ixV ds } .en)) (R (oMe M (.e eRng)))) (R (oMe M (.e eBit)))) (R (oMe M (.e eKnd))))
      ((inM M = inM (bk M) ∧ (bk M).ok) ∧ ([NV.c (.p 0 0 0), (⟨(g : Int), row, kd, cd, ds⟩ : Px).nv] = [.c (.p 0 0 0), (⟨(g : Int), row, kd, cd, ds⟩ : Px).nv] ∧ (1 ≤ (g : Int) ∧ (g : Int) ≤ 8) ∧ (bk M).good ∧ (kd = 3 ∨ kd = 4 ∨ kd = 5 → ds.length = 39) ∧ ∀ b ∈ ds, 0 ≤ b ∧ b < 256) ∧
        R (oMe ((bk M).insM g ⟨g, row, kd, cd, ds⟩) .en))))
theorem pk_treeBL (M : Mc) (bs : List Int) (R : Out → Prop) : (t_pkC (.bad eLen) [.c (.p 0 0 0), .c (.l .u8 bs)] (inM M)).run R = (([NV.c (.l .u8 bs)] = [NV.c (.l .u8 bs)] ∧ pkV bs = .bad eLen) ∧ R (oMe M (.e eLen))) := by kernel_rfl
theorem pk_treeBB (M : Mc) (bs : List Int) (R : Out → Prop) : (t_pkC (.bad eBit) [.c (.p 0 0 0), .c (.l .u8 bs)] (inM M)).run R = (([NV.c (.l .u8 bs)] = [NV.c (.l .u8 bs)] ∧ pkV bs = .bad eBit) ∧ R (oMe M (.e eBit))) := by kernel_rfl
theorem pk_treeBK (M : Mc) (bs : List Int) (R : Out → Prop) : (t_pkC (.bad eKnd) [.c (.p 0 0 0), .c (.l .u8 bs)] (inM M)).run R = (([NV.c (.l .u8 bs)] = [NV.c (.l .u8 bs)] ∧ pkV bs = .bad eKnd) ∧ R (oMe M (.e eKnd))) := by kernel_rfl
theorem pk_treeN (M : Mc) (R : Out → Prop) : (t_pkC (.bad eLen) [.c (.p 0 0 0), .c .sn] (inM M)).run R = (PkR.bad eLen = .bad eLen ∧ R (oMe M (.e eLen))) := by kernel_rfl
end Go.Proofs.YtdhhjgplnmpjcaaGreatDoor.mac
namespace Go.Proofs.YtdhhjgplnmpjcaaGreatDoor.mac
open Go Go.Nx Go.Proofs.YtdhhjgplnmpjcaaGreatDoor.pk Go.Proofs.YtdhhjgplnmpjcaaGreatDoor.ac Go.Proofs.YtdhhjgplnmpjcaaGreatDoor.sto Go.Proofs.YtdhhjgplnmpjcaaGreatDoor.pge Go.Proofs.YtdhhjgplnmpjcaaGreatDoor.dec
theorem pk_tree1 (M : Mc) (row kd cd : Int) (ds bs : List Int) (R : Out → Prop) : (t_pkC (.ok ⟨1, row, kd, cd, ds⟩) [.c (.p 0 0 0), .c (.l .u8 bs)] (inM M)).run R = (([NV.c (.l .u8 bs)] = [NV.c (.l .u8 bs)] ∧ pkV bs = .ok ⟨1, row, kd, cd, ds⟩) ∧ pkT M 1 row kd cd ds R) := by kernel_rfl
theorem pk_tree2 (M : Mc) (row kd cd : Int) (ds bs : List Int) (R : Out → Prop) : (t_pkC (.ok ⟨2, row, kd, cd, ds⟩) [.c (.p 0 0 0), .c (.l .u8 bs)] (inM M)).run R = (([NV.c (.l .u8 bs)] = [NV.c (.l .u8 bs)] ∧ pkV bs = .ok ⟨2, row, kd, cd, ds⟩) ∧ pkT M 2 row kd cd ds R) := by kernel_rfl
theorem pk_tree3 (M : Mc) (row kd cd : Int) (ds bs : List Int) (R : Out → Prop) : (t_pkC (.ok ⟨3, row, kd, cd, ds⟩) [.c (.p 0 0 0), .c (.l .u8 bs)] (inM M)).run R = (([NV.c (.l .u8 bs)] = [NV.c (.l .u8 bs)] ∧ pkV bs = .ok ⟨3, row, kd, cd, ds⟩) ∧ pkT M 3 row kd cd ds R) := by kernel_rfl
theorem pk_tree4 (M : Mc) (row kd cd : Int) (ds bs : List Int) (R : Out → Prop) : (t_pkC (.ok ⟨4, row, kd, cd, ds⟩) [.c (.p 0 0 0), .c (.l .u8 bs)] (inM M)).run R = (([NV.c (.l .u8 bs)] = [NV.c (.l .u8 bs)] ∧ pkV bs = .ok ⟨4, row, kd, cd, ds⟩) ∧ pkT M 4 row kd cd ds R) := by kernel_rfl
end Go.Proofs.YtdhhjgplnmpjcaaGreatDoor.mac
namespace Go.Proofs.YtdhhjgplnmpjcaaGreatDoor.mac
open Go Go.Nx Go.Proofs.YtdhhjgplnmpjcaaGreatDoor.pk Go.Proofs.YtdhhjgplnmpjcaaGreatDoor.ac Go.Proofs.YtdhhjgplnmpjcaaGreatDoor.sto Go.Proofs.YtdhhjgplnmpjcaaGreatDoor.pge Go.Proofs.YtdhhjgplnmpjcaaGreatDoor.dec
theorem pk_tree5 (M : Mc) (row kd cd : Int) (ds bs : List Int) (R : Out → Prop) : (t_pkC (.ok ⟨5, row, kd, cd, ds⟩) [.c (.p 0 0 0), .c (.l .u8 bs)] (inM M)).run R = (([NV.c (.l .u8 bs)] = [NV.c (.l .u8 bs)] ∧ pkV bs = .ok ⟨5, row, kd, cd, ds⟩) ∧ pkT M 5 row kd cd ds R) := by kernel_rfl
theorem pk_tree6 (M : Mc) (row kd cd : Int) (ds bs : List Int) (R : Out → Prop) : (t_pkC (.ok ⟨6, row, kd, cd, ds⟩) [.c (.p 0 0 0), .c (.l .u8 bs)] (inM M)).run R = (([NV.c (.l .u8 bs)] = [NV.c (.l .u8 bs)] ∧ pkV bs = .ok ⟨6, row, kd, cd, ds⟩) ∧ pkT M 6 row kd cd ds R) := by kernel_rfl
theorem pk_tree7 (M : Mc) (row kd cd : Int) (ds bs : List Int) (R : Out → Prop) : (t_pkC (.ok ⟨7, row, kd, cd, ds⟩) [.c (.p 0 0 0), .c (.l .u8 bs)] (inM M)).run R = (([NV.c (.l .u8 bs)] = [NV.c (.l .u8 bs)] ∧ pkV bs = .ok ⟨7, row, kd, cd, ds⟩) ∧ pkT M 7 row kd cd ds R) := by kernel_rfl
theorem pk_tree8 (M : Mc) (row kd cd : Int) (ds bs : List Int) (R : Out → Prop) : (t_pkC (.ok ⟨8, row, kd, cd, ds⟩) [.c (.p 0 0 0), .c (.l .u8 bs)] (inM M)).run R = (([NV.c (.l .u8 bs)] = [NV.c (.l .u8 bs)] ∧ pkV bs = .ok ⟨8, row, kd, cd, ds⟩) ∧ pkT M 8 row kd cd ds R) := by kernel_rfl
end Go.Proofs.YtdhhjgplnmpjcaaGreatDoor.mac
namespace Go.Proofs.YtdhhjgplnmpjcaaGreatDoor.mac
open Go Go.Nx Go.Proofs.YtdhhjgplnmpjcaaGreatDoor.pk Go.Proofs.YtdhhjgplnmpjcaaGreatDoor.ac Go.Proofs.YtdhhjgplnmpjcaaGreatDoor.sto Go.Proofs.YtdhhjgplnmpjcaaGreatDoor.pge Go.Proofs.YtdhhjgplnmpjcaaGreatDoor.dec
noncomputable def Mc.pkM (M : Mc) (p : Px) : Mc × Option Nat :=
  match p.kd == 1 with
  | true => (match hdOk p.ds with
    | true => (M.hdM p.mg.toNat p.ds, none)
    | false => (M, some eBit))
  | false => match p.kd == 6 with
    | true => (match tr.regB p.kd p.cd p.ds with
      | true => (M.withV p.mg.toNat { M.v p.mg.toNat with rg := rgN p.kd p.cd p.ds, td := true }, none)
      | false => (M, none))
    | false => match p.kd == 7 with
      | true => (match sv.okK p.mg p.kd p.cd with
        | true => (match sv.all6 p.ds with
          | true => (match sv.clkG (sv.gD p.ds) with
            | true => ({ M with inf := ixV p.ds }, none)
            | false => (M, some eRng))
          | false => (M, some eBit))
        | false => (M, some eKnd))
      | false => (M.insM p.mg.toNat p, none)
noncomputable def Mc.step (M : Mc) (bs : List Int) : Mc × Option Nat := match pkV bs with
  | .bad k => (M, some k)
  | .ok p => M.pkM p
theorem pkM_good {M : Mc} (h : M.good) {p : Px} (hg : 1 ≤ p.mg ∧ p.mg ≤ 8) : (M.pkM p).1.good := by
  have hn : p.mg.toNat < 9 := by omega
  unfold Mc.pkM
  split
  · split
    · exact hdM_good h (by omega) _
    · exact h
  · split
    · split
      · exact h.upd hn (h.vfit _) (h.txt _)
      · exact h
    · split
      · split
        · split
          · split
            · exact ⟨h.far, h.nd, h.m1, h.m8, h.len, h.fit, h.vfit, h.txt⟩
            · exact h
          · exact h
        · exact h
      · exact insM_good h hn p
theorem kindF_cases (r : Int) : kindF r = 0 ∨ (kindF r = 1 ∧ r = 0) ∨ (kindF r = 2 ∧ 1 ≤ r ∧ r ≤ 24) ∨ (3 ≤ kindF r ∧ kindF r ≤ 7 ∧ 26 ≤ r ∧ r ≤ 30) := by
  unfold kindF
  by_cases h0 : r = 0
  · subst h0; exact .inr (.inl ⟨rfl, rfl⟩)
  · rw [decide_eq_false h0]
    by_cases h1 : 1 ≤ r ∧ r ≤ 24
    · refine .inr (.inr (.inl ⟨?_, h1⟩))
      simp [h1]
    · by_cases h2 : 26 ≤ r ∧ r ≤ 30
      · refine .inr (.inr (.inr ?_))
        have : r = 26 ∨ r = 27 ∨ r = 28 ∨ r = 29 ∨ r = 30 := by omega
        rcases this with rfl | rfl | rfl | rfl | rfl <;> decide
      · left
        have e1 : (decide (r ≥ 1) && decide (r ≤ 24)) = false := by
          rw [Bool.and_eq_false_iff]
          by_cases c : r ≥ 1
          · exact .inr (decide_eq_false fun h => h1 ⟨c, h⟩)
          · exact .inl (decide_eq_false c)
        have e2 : (decide (r ≥ 26) && decide (r ≤ 30)) = false := by
          rw [Bool.and_eq_false_iff]
          by_cases c : r ≥ 26
          · exact .inr (decide_eq_false fun h => h2 ⟨c, h⟩)
          · exact .inl (decide_eq_false c)
        simp [e1, e2]
theorem getN_rng (b : Int) : 0 ≤ getN b ∧ getN b < 16 := by
  unfold getN pk.get
  cases h : (List.range 16).find? (hit b) with
  | none => exact ⟨by decide, by decide⟩
  | some n =>
    have := List.mem_of_find?_eq_some h
    rw [List.mem_range] at this
    show 0 ≤ ((n : Nat) : Int) ∧ ((n : Nat) : Int) < 16
    omega
theorem magOf_rng (x : Int) (h : 0 ≤ x ∧ x < 16) : 1 ≤ magOf x ∧ magOf x ≤ 8 := by
  have : x = 0 ∨ x = 1 ∨ x = 2 ∨ x = 3 ∨ x = 4 ∨ x = 5 ∨ x = 6 ∨ x = 7 ∨ x = 8 ∨ x = 9 ∨ x = 10 ∨ x = 11 ∨ x = 12 ∨ x = 13 ∨ x = 14 ∨ x = 15 := by omega
  rcases this with rfl | rfl | rfl | rfl | rfl | rfl | rfl | rfl | rfl | rfl | rfl | rfl | rfl | rfl | rfl | rfl <;> decide
structure Fine (p : Px) : Prop where
  mg : 1 ≤ p.mg ∧ p.mg ≤ 8
  kd : 1 ≤ p.kd ∧ p.kd ≤ 7
  l40 : p.kd ≤ 2 → p.ds.length = 40
  l39 : 3 ≤ p.kd → p.ds.length = 39
  by' : ∀ b ∈ p.ds, 0 ≤ b ∧ b < 256
theorem pkV_fine {bs : List Int} {p : Px} (hb : ∀ b ∈ bs, 0 ≤ b ∧ b < 256) (h : pkV bs = .ok p) : Fine p := by
  unfold pkV at h
  split at h
  · cases h
  rename_i hl
  have hl := of_decide_eq_true hl
  split at h
  · cases h
  split at h
  · cases h
  rename_i hk
  have hk := of_decide_eq_false hk
  have hm := magOf_rng _ (getN_rng (bs.getD 0 0))
  have hc := kindF_cases (rwB bs)
  split at h
  · rename_i hr
    have hr := of_decide_eq_false hr
    cases h
    refine ⟨hm, ⟨?_, ?_⟩, fun _ => ?_, fun h3 => ?_, fun b hb' => hb b (List.mem_of_mem_drop hb')⟩
    · simp only; omega
    · simp only; omega
    · simp only [List.length_drop]; omega
    · simp only at h3; omega
  · rename_i hr
    have hr := of_decide_eq_true hr
    split at h
    · cases h
      refine ⟨hm, ⟨?_, ?_⟩, fun h3 => ?_, fun _ => ?_, fun b hb' => hb b (List.mem_of_mem_drop (List.mem_of_mem_drop hb'))⟩
      · simp only; omega
      · simp only; omega
      · simp only at h3; omega
      · simp only [List.length_drop]; omega
    · cases h
theorem pkV_bad {bs : List Int} {k : Nat} (h : pkV bs = .bad k) : k = eLen ∨ k = eBit ∨ k = eKnd := by
  unfold pkV at h
  split at h
  · cases h; exact .inl rfl
  split at h
  · cases h; exact .inr (.inl rfl)
  split at h
  · cases h; exact .inr (.inr rfl)
  split at h
  · cases h
  split at h
  · cases h
  · cases h; exact .inr (.inl rfl)
theorem step_good {M : Mc} (h : M.good) {bs : List Int} (hb : ∀ b ∈ bs, 0 ≤ b ∧ b < 256) : (M.step bs).1.good := by
  unfold Mc.step
  split
  · exact h
  · rename_i p hp
    exact pkM_good h (pkV_fine hb hp).mg
def ncE : Option Nat → NC
  | none => .en
  | some k => .e k
noncomputable def errT (e : Option Nat) (M : Mc) : Tr Out :=
  .br (e == none) (.ret (oMe M .en)) (.br (e == some eLen) (.ret (oMe M (.e eLen))) (.br (e == some eBit) (.ret (oMe M (.e eBit))) (.br (e == some eKnd) (.ret (oMe M (.e eKnd))) (.ret (oMe M (.e eRng))))))
theorem errT_run {e : Option Nat} {M : Mc} {R : Out → Prop} (he : e = none ∨ e = some eLen ∨ e = some eBit ∨ e = some eKnd ∨ e = some eRng) (h : (errT e M).run R) : R (oMe M (ncE e)) := by
  rcases he with rfl | rfl | rfl | rfl | rfl
  all_goals exact h
theorem pkT_of {M : Mc} {p : Px} {g : Nat} {R : Out → Prop} (hg : (g : Int) = p.mg) (hM : M.good) (hp : Fine p) (h : R (oMe (M.pkM p).1 (ncE (M.pkM p).2))) : pkT M g p.row p.kd p.cd p.ds R := by
  have hgn : p.mg.toNat = g := by omega
  unfold pkT
  rw [hM.bk, hg]
  unfold Mc.pkM at h
  rw [hgn] at h
  cases h1 : (p.kd == 1) with
  | true =>
    have e1 := eq_of_beq h1
    rw [h1] at h
    refine sT rfl ⟨⟨rfl, hM.ok⟩, ⟨by rw [e1], hp.mg, hM, hp.l40 (by omega), hp.by'⟩, ?_⟩
    cases ho : hdOk p.ds with
    | true => rw [ho] at h; exact sT rfl h
    | false => rw [ho] at h; exact sF rfl h
  | false =>
    rw [h1] at h
    refine sF rfl ?_
    cases h6 : (p.kd == 6) with
    | true =>
      have e6 := eq_of_beq h6
      rw [h6] at h
      have hl := hp.l39 (by omega)
      refine sT rfl ⟨⟨by omega, by omega, hp.by'⟩, ?_⟩
      cases ho : tr.regB p.kd p.cd p.ds with
      | true => rw [ho] at h; exact sT rfl h
      | false => rw [ho] at h; exact sF rfl h
    | false =>
      rw [h6] at h
      refine sF rfl ?_
      cases h7 : (p.kd == 7) with
      | true =>
        have e7 := eq_of_beq h7
        rw [h7] at h
        refine sT rfl ⟨fun _ => ⟨hp.l39 (by omega), hp.by'⟩, ?_⟩
        cases ho : sv.okK p.mg p.kd p.cd with
        | false => rw [ho] at h; exact sF rfl h
        | true =>
          rw [ho] at h
          refine sT rfl ?_
          cases ha : sv.all6 p.ds with
          | false => rw [ha] at h; exact sF rfl h
          | true =>
            rw [ha] at h
            refine sT rfl ?_
            cases hc : sv.clkG (sv.gD p.ds) with
            | false => rw [hc] at h; exact sF rfl h
            | true => rw [hc] at h; exact sT rfl h
      | false =>
        rw [h7] at h
        exact sF rfl ⟨⟨rfl, hM.ok⟩, ⟨rfl, hp.mg, hM, fun h3 => hp.l39 (by omega), hp.by'⟩, h⟩
theorem onM_in {M : Mc} {f : Mc → Tr Out} {R : Out → Prop} (hM : M.ok) (h : (f M).run R) : (onM (inM M) f).run R := by
  have e : bk M = M := bk_eq M hM.1
  show ((inM M = inM (bk M) ∧ (bk M).ok) ∧ (f (bk M)).run R)
  rw [e]
  exact ⟨⟨rfl, hM⟩, h⟩
noncomputable def tPk : Con := fun args regs => match args with
  | [.c (.p 0 0 0), .c (.l _ bs)] => onM regs fun M => .must (args = [.c (.p 0 0 0), .c (.l .u8 bs)] ∧ M.good ∧ ∀ b ∈ bs, 0 ≤ b ∧ b < 256) (errT (M.step bs).2 (M.step bs).1)
  | [.c (.p 0 0 0), .c .sn] => onM regs fun M => .ret (oMe M (.e eLen))
  | _ => .fail
theorem Known_any {P : Program} {gl : List Nat} {f : FuncId} {ι : Type} {T : ι → Con} {T' : Con} (i0 : ι) (hk : ∀ i, Known P gl f (T i)) (h : ∀ args regs R, (T' args regs).run R → ∃ i, (T i args regs).run R) : Known P gl f T' :=
  ⟨(hk i0).goes, fun args regs R hr => by obtain ⟨i, hi⟩ := h args regs R hr; exact (hk i).sound args regs R hi⟩
theorem pkM_err (M : Mc) (p : Px) : (M.pkM p).2 = none ∨ (M.pkM p).2 = some eLen ∨ (M.pkM p).2 = some eBit ∨ (M.pkM p).2 = some eKnd ∨ (M.pkM p).2 = some eRng := by
  unfold Mc.pkM
  split
  · split
    · exact .inl rfl
    · exact .inr (.inr (.inl rfl))
  · split
    · split <;> exact .inl rfl
    · split
      · split
        · split
          · split
            · exact .inl rfl
            · exact .inr (.inr (.inr (.inr rfl)))
          · exact .inr (.inr (.inl rfl))
        · exact .inr (.inr (.inr (.inl rfl)))
      · exact .inl rfl
theorem step_err (M : Mc) (bs : List Int) : (M.step bs).2 = none ∨ (M.step bs).2 = some eLen ∨ (M.step bs).2 = some eBit ∨ (M.step bs).2 = some eKnd ∨ (M.step bs).2 = some eRng := by
  unfold Mc.step
  split
  · rename_i k hk
    rcases pkV_bad hk with rfl | rfl | rfl
    · exact .inr (.inl rfl)
    · exact .inr (.inr (.inl rfl))
    · exact .inr (.inr (.inr (.inl rfl)))
  · exact pkM_err M _
set_option maxRecDepth 100000 in
attribute [local irreducible] t_pkC pkT inM in
set_option maxHeartbeats 1000000 in
theorem pk_in {M : Mc} {bs : List Int} {R : Out → Prop} (hM : M.good) (hb : ∀ b ∈ bs, 0 ≤ b ∧ b < 256) (h : R (oMe (M.step bs).1 (ncE (M.step bs).2))) : (t_pkC (pkV bs) [.c (.p 0 0 0), .c (.l .u8 bs)] (inM M)).run R := by
  unfold Mc.step at h
  cases hq : pkV bs with
  | bad k =>
    rw [hq] at h
    rcases pkV_bad hq with rfl | rfl | rfl
    · exact (pk_treeBL M bs R).mpr ⟨⟨rfl, hq⟩, h⟩
    · exact (pk_treeBB M bs R).mpr ⟨⟨rfl, hq⟩, h⟩
    · exact (pk_treeBK M bs R).mpr ⟨⟨rfl, hq⟩, h⟩
  | ok p =>
    rw [hq] at h
    have hp := pkV_fine hb hq
    have key : ∀ g : Nat, (g : Int) = p.mg → pkT M g p.row p.kd p.cd p.ds R := fun g hg => pkT_of hg hM hp h
    clear h
    obtain ⟨g, row, kd, cd, ds⟩ := p
    have hg : g = 1 ∨ g = 2 ∨ g = 3 ∨ g = 4 ∨ g = 5 ∨ g = 6 ∨ g = 7 ∨ g = 8 := by have := hp.mg; simp only at this; omega
    rcases hg with rfl | rfl | rfl | rfl | rfl | rfl | rfl | rfl
    · exact (pk_tree1 M row kd cd ds bs R).mpr ⟨⟨rfl, hq⟩, key 1 rfl⟩
    · exact (pk_tree2 M row kd cd ds bs R).mpr ⟨⟨rfl, hq⟩, key 2 rfl⟩
    · exact (pk_tree3 M row kd cd ds bs R).mpr ⟨⟨rfl, hq⟩, key 3 rfl⟩
    · exact (pk_tree4 M row kd cd ds bs R).mpr ⟨⟨rfl, hq⟩, key 4 rfl⟩
    · exact (pk_tree5 M row kd cd ds bs R).mpr ⟨⟨rfl, hq⟩, key 5 rfl⟩
    · exact (pk_tree6 M row kd cd ds bs R).mpr ⟨⟨rfl, hq⟩, key 6 rfl⟩
    · exact (pk_tree7 M row kd cd ds bs R).mpr ⟨⟨rfl, hq⟩, key 7 rfl⟩
    · exact (pk_tree8 M row kd cd ds bs R).mpr ⟨⟨rfl, hq⟩, key 8 rfl⟩
attribute [local irreducible] t_pkC in
set_option maxRecDepth 100000 in
theorem kPk : Known Tryz.prog GL 12 tPk := by
  refine Known_any (.bad 0) k_pkC fun args regs R h => ?_
  unfold tPk at h
  split at h
  case h_3 => exact h.elim
  case h_1 =>
    rename_i _ bs
    obtain ⟨M, rfl, hM, ⟨h1, hg, hb⟩, h⟩ := onM_elim h
    rw [h1]
    exact ⟨pkV bs, pk_in hg hb (errT_run (step_err M bs) h)⟩
  case h_2 =>
    obtain ⟨M, rfl, hM, h⟩ := onM_elim h
    exact ⟨.bad eLen, (pk_treeN M R).mpr ⟨rfl, h⟩⟩
noncomputable def tPkN : Con := fun args regs => match args with
  | [.c (.p 0 0 0), .c (.l _ bs)] => onM regs fun M => .must (args = [.c (.p 0 0 0), .c (.l .u8 bs)] ∧ M.good ∧ (∀ b ∈ bs, 0 ≤ b ∧ b < 256) ∧ (M.step bs).2 = none) (.ret (oMe (M.step bs).1 .en))
  | [.c (.p 0 0 0), .c .sn] => onM regs fun M => .ret (oMe M (.e eLen))
  | _ => .fail
theorem kPkN : Known Tryz.prog GL 12 tPkN := by
  refine kPk.less fun args regs R h => ?_
  unfold tPkN at h
  split at h
  case h_3 => exact h.elim
  case h_1 =>
    rename_i _ bs
    obtain ⟨M, rfl, hM, ⟨h1, hg, hb, he⟩, h⟩ := onM_elim h
    rw [h1]
    refine onM_in (f := fun M => .must ([NV.c (.p 0 0 0), .c (.l .u8 bs)] = [.c (.p 0 0 0), .c (.l .u8 bs)] ∧ M.good ∧ ∀ b ∈ bs, 0 ≤ b ∧ b < 256) (errT (M.step bs).2 (M.step bs).1)) hM ⟨⟨rfl, hg, hb⟩, ?_⟩
    rw [he]
    exact h
  case h_2 => exact h
end Go.Proofs.YtdhhjgplnmpjcaaGreatDoor.mac
namespace Go.Proofs.YtdhhjgplnmpjcaaGreatDoor.mac
open Go Go.Nx Go.Proofs.YtdhhjgplnmpjcaaGreatDoor.pk Go.Proofs.YtdhhjgplnmpjcaaGreatDoor.ac Go.Proofs.YtdhhjgplnmpjcaaGreatDoor.sto Go.Proofs.YtdhhjgplnmpjcaaGreatDoor.pge Go.Proofs.YtdhhjgplnmpjcaaGreatDoor.dec
theorem clN_tree (R : Out → Prop) : (t_clT [.c .sn] []).run R = R ⟨.v (.c (.lr K3 [])), []⟩ := by kernel_rfl
noncomputable def tclTN : Con := fun args regs => match args, regs with
  | [.c .sn], [] => .ret ⟨.v (.c (.lr K3 [])), []⟩
  | [.c (.lr ks xs)], [] => tclTV [.c (.lr ks xs)] []
  | _, _ => .fail
noncomputable def clAny : Bool → Con
  | true => t_clT
  | false => tclTV
set_option maxRecDepth 100000 in
attribute [local irreducible] t_clT in
theorem kclTN : Known Tryz.prog GL 105 tclTN := by
  refine Known_any (T := clAny) true (fun b => by cases b; exact kclTV; exact kt_clT) fun args regs R h => ?_
  unfold tclTN at h
  split at h
  · exact ⟨true, (Box.of_eq (clN_tree R) h).out⟩
  · exact ⟨false, h⟩
  · exact h.elim
noncomputable def c_own1 : FuncId → Option Con := conOf [(105, tclTN)]
theorem kc_own1 : ∀ f T, c_own1 f = some T → Known Tryz.prog GL f T := (Knowns.cons kclTN .nil).get
noncomputable def t_own1 : Con := fun args regs => nfun Tryz.prog GL c_own1 [] Tryz.f53 args regs
theorem k_own1 : Known Tryz.prog GL 53 t_own1 := known_inl Tryz.func53 rfl (by kernel_rfl) mixed kc_own1 (by kernel_rfl)
noncomputable def pgN (p : Pg) : NV := .sg (pgSegs p .sn [] fun q => [.cells q])
theorem own1_tree (p : Pg) (R : Out → Prop) : (t_own1 [pgV p] []).run R = (([NV.c (.lr K3 p.ex)] = [NV.c (.lr K3 p.ex)] ∧ p.ex.length ≤ 1000000) ∧ R (oPg p)) := by kernel_rfl
theorem own1_nil (R : Out → Prop) : (t_own1 [pgN pgZ] []).run R = R (oPg pgZ) := by kernel_rfl
noncomputable def tOwnN : Con := fun args regs => match args, regs with
  | [v], [] => (match rdPg v with
    | some p => .must (args = [pgV p] ∧ fits p) (.ret (oPg p))
    | none => .must (args = [pgN pgZ]) (.ret (oPg pgZ)))
  | _, _ => .fail
attribute [local irreducible] t_own1 in
set_option maxRecDepth 100000 in
theorem kOwnN : Known Tryz.prog GL 53 tOwnN := by
  refine k_own1.less fun args regs R h => ?_
  unfold tOwnN at h
  split at h
  case h_2 => exact h.elim
  split at h
  · rename_i p _
    obtain ⟨⟨h1, h2⟩, h⟩ := h
    rw [h1]
    unfold fits at h2
    exact (Box.of_eq (own1_tree p R) ⟨⟨rfl, by omega⟩, h⟩).out
  · obtain ⟨h1, h⟩ := h
    rw [h1]
    exact (Box.of_eq (own1_nil R) h).out
noncomputable def c_fd2 : FuncId → Option Con := conOf [(52, tGe), (53, tOwnN), (54, t_all)]
theorem kc_fd2 : ∀ f T, c_fd2 f = some T → Known Tryz.prog GL f T := (Knowns.cons kGe (.cons kOwnN (.cons k_all .nil))).get
noncomputable def XFe : Cx := { P := Tryz.prog, con := c_fd2, glob := GL, m := 4, loops := [] }
noncomputable def XIt : Cx := { P := Tryz.prog, con := cIt, glob := GL, m := 9, loops := [] }
noncomputable def fr0 : List NS := frame 50 [(3, .v (.c (.p 4 0 0))), (4, .v (.c (.p 5 0 0))), (8, .v (.c (.p 6 0 0))), (9, .v (.c (.p 7 0 0))), (31, .v (.c (.cl 106 [(8, 0, 0)])))]
noncomputable def YF : Yh := bodyY XFe (psOf rgF) (asOf rgF) (bdOf rgF) fr0
noncomputable def frIt (n i : Int) (l : Nat) : List NS := frame 32 [(0, .v (.c (.e 1000))), (1, .v (.c (.p 8 0 0))), (8, .v (.c (.hz 9 l))), (9, .v (.c (.i .i64 n))), (10, .v (.c (.i .i64 i)))]
noncomputable def pgO : Option Pg → Reg
  | some p => pgReg p (.lr K3 p.ex)
  | none => pgReg pgZ .sn
noncomputable def rgI (M : Mc) (k : Ky) (o : Option Pg) : List (Option Reg) := [some (mcG 1 M.v M.inf), some (stM M.st.sto (.hz 3 M.st.sto.l.length)), some (mpReg M.st.sto.m), some (ordReg (kyRows M.st.sto.l)), some (plReg k), some (pgReg pgZ .sn), some (pgO o), some ⟨1, 4, .cells [.b o.isSome]⟩, some ⟨1, 87, .cells [.p 1 0 0]⟩]
noncomputable def SF (M : Mc) (k : Ky) (o : Option Pg) (i : Int) : St := { fr := frIt M.st.L.length i M.st.L.length, rg := rgI M k o ++ [some (ordReg (kyRows (M.st.L.map kyP)))] }
noncomputable def DF (M : Mc) (k : Ky) (o : Option Pg) : St := { fr := frame 32 [], rg := rgI M k o }
noncomputable abbrev itC : Code := bodyLoop f_it 0
noncomputable def rndF (s : St) : Tr ROI := roundI XIt YF KI [] 0 [0, 1, 8, 9, 10] [] itC s Option.none
def rkF (M : Mc) (i : Int) : Ky := toKy ((kyRows (M.st.L.map kyP)).getD i.toNat [])
noncomputable def nxF (M : Mc) (k : Ky) (o : Option Pg) (i : Int) (R : ROI → Prop) : Prop := R (.next (SF M k o (IntKind.i64.wrap (i + 1))) Option.none)
noncomputable def inF (M : Mc) (k : Ky) (o : Option Pg) (i : Int) (R : ROI → Prop) : Prop :=
  sel (decide (i < (M.st.L.length : Int))) (sel (decide (0 ≤ i)) (sel (decide (i < (M.st.L.length : Int))) (sel (decide (i.toNat < (kyRows (M.st.L.map kyP)).length)) (sel (mpHas plSch (kyFC (rkF M i)) M.st.sto.m)
    (true = true ∧ sel ((rkF M i).1 == k.1) (sel ((rkF M i).2.1 == k.2.1) (nxF M k (some (ofRow (mpGet plSch (kyFC (rkF M i)) M.st.sto.m))) i R) (nxF M k o i R)) (nxF M k o i R)) (nxF M k o i R)) False) False) False) (R (.done .normal (DF M k o) Option.none))
theorem round_F0 (M : Mc) (k : Ky) (i : Int) (R : ROI → Prop) : (rndF (SF M k none i)).run R = inF M k none i R := by kernel_rfl
theorem round_F1 (M : Mc) (k : Ky) (p : Pg) (i : Int) (R : ROI → Prop) : (rndF (SF M k (some p) i)).run R = inF M k (some p) i R := by kernel_rfl
theorem round_F (M : Mc) (k : Ky) (i : Int) (R : ROI → Prop) : ∀ o : Option Pg, (rndF (SF M k o i)).run R = inF M k o i R
  | none => round_F0 M k i R
  | some p => round_F1 M k p i R
end Go.Proofs.YtdhhjgplnmpjcaaGreatDoor.mac
namespace Go.Proofs.YtdhhjgplnmpjcaaGreatDoor.mac
open Go Go.Nx Go.Proofs.YtdhhjgplnmpjcaaGreatDoor.pk Go.Proofs.YtdhhjgplnmpjcaaGreatDoor.ac Go.Proofs.YtdhhjgplnmpjcaaGreatDoor.sto Go.Proofs.YtdhhjgplnmpjcaaGreatDoor.pge Go.Proofs.YtdhhjgplnmpjcaaGreatDoor.dec
def hitF (k : Ky) (p : Pg) : Bool := (p.mg == k.1) && (p.pn == k.2.1)
def stepF (k : Ky) (o : Option Pg) (p : Pg) : Option Pg := match hitF k p with
  | true => some p
  | false => o
def lastF (k : Ky) (L : List Pg) : Option Pg := L.foldl (stepF k) none
theorem rk_eq {M : Mc} {i : Int} (h : i.toNat < M.st.L.length) : rkF M i = kyP M.st.L[i.toNat] := by
  unfold rkF
  rw [kyRows_getD (by rw [List.length_map]; exact h), List.getD_eq_getElem?_getD, List.getElem?_map, List.getElem?_eq_getElem h]
  rfl
theorem find_nd : ∀ {L : List Pg} {n : Nat} (hn : n < L.length), (L.map kyP).Nodup → L.find? (fun p => kyEq (kyP L[n]) (kyP p)) = some L[n]
  | [], n, hn, _ => absurd hn (Nat.not_lt_zero _)
  | q :: L, 0, _, _ => by
    rw [List.find?_cons]
    show (match kyEq (kyP q) (kyP q) with | true => some q | false => _) = some q
    rw [kyEq_iff.2 rfl]
  | q :: L, n + 1, hn, h => by
    rw [List.map_cons, List.nodup_cons] at h
    have hn' : n < L.length := Nat.lt_of_succ_lt_succ hn
    rw [List.find?_cons]
    show (match kyEq (kyP L[n]) (kyP q) with | true => some q | false => L.find? (fun p => kyEq (kyP L[n]) (kyP p))) = some L[n]
    cases hk : kyEq (kyP L[n]) (kyP q) with
    | true => exact (h.1 (kyEq_iff.1 hk ▸ List.mem_map.2 ⟨L[n], List.getElem_mem hn', rfl⟩)).elim
    | false => exact find_nd hn' h.2
theorem mp_nth {L : List Pg} {n : Nat} (hn : n < L.length) (h : (L.map kyP).Nodup) : mpHas plSch (kyFC (kyP L[n])) (ents L) = true ∧ ofRow (mpGet plSch (kyFC (kyP L[n])) (ents L)) = L[n] := by
  have := mp_find (kyP L[n]) L
  rw [find_nd hn h] at this
  exact this
structure AF where
  o : Option Pg
  i : Int
noncomputable def endF (M : Mc) (k : Ky) (o : Option Pg) : Tr (NExit × St × Option NExit) := .br o.isSome (.ret (.normal, DF M k (some (o.getD pgZ)), Option.none)) (.ret (.normal, DF M k none, Option.none))
def preF (M : Mc) (k : Ky) (a : AF) (R : NExit × St × Option NExit → Prop) : Prop := (0 ≤ a.i ∧ a.i ≤ (M.st.L.length : Int)) ∧ M.good ∧ (endF M k ((M.st.L.drop a.i.toNat).foldl (stepF k) a.o)).run R
noncomputable def hF (M : Mc) (k : Ky) (a : AF) : St × Option NExit := (SF M k a.o a.i, Option.none)
def nxtF (M : Mc) (k : Ky) (a : AF) (R : NExit × St × Option NExit → Prop) (o : ROI) : Prop := match o with
  | .next s p => ∃ y, (s, p) = hF M k y ∧ ((M.st.L.length : Int) - y.i).toNat < ((M.st.L.length : Int) - a.i).toNat ∧ preF M k y R
  | .done e s p => R (e, s, p)
theorem inF_in (M : Mc) (k : Ky) (a : AF) (R : NExit × St × Option NExit → Prop) (h : preF M k a R) : inF M k a.o a.i (nxtF M k a R) := by
  obtain ⟨o, i⟩ := a
  obtain ⟨⟨h0, hle⟩, hg, hR⟩ := h
  simp only at h0 hle hR
  unfold inF
  by_cases hlt : i < (M.st.L.length : Int)
  · have hj : i.toNat < M.st.L.length := by omega
    have hl8 := hg.lt
    have hw : IntKind.i64.wrap (i + 1) = i + 1 := by rw [IntKind.wrap_i64]; omega
    have ht : (i + 1).toNat = i.toNat + 1 := by omega
    have nx : ∀ o', (endF M k ((M.st.L.drop (i.toNat + 1)).foldl (stepF k) o')).run R → nxF M k o' i (nxtF M k ⟨o, i⟩ R) := fun o' h' => by
      unfold nxF
      rw [hw]
      exact ⟨⟨o', i + 1⟩, rfl, by simp only; omega, ⟨by simp only; omega, by simp only; omega⟩, hg, by simp only; rw [ht]; exact h'⟩
    rw [List.drop_eq_getElem_cons hj, List.foldl_cons] at hR
    have hm := mp_nth hj hg.nd
    rw [rk_eq hj]
    refine sT (decide_eq_true hlt) (sT (decide_eq_true h0) (sT (decide_eq_true hlt) (sT (decide_eq_true (by rw [kyRows_length, List.length_map]; exact hj)) ?_)))
    show sel (mpHas plSch (kyFC (kyP M.st.L[i.toNat])) (ents M.st.L)) (true = true ∧ sel _ (sel _ (nxF M k (some (ofRow (mpGet plSch (kyFC (kyP M.st.L[i.toNat])) (ents M.st.L)))) i _) _) _) _
    rw [hm.2]
    refine sT hm.1 ⟨rfl, ?_⟩
    generalize M.st.L[i.toNat] = p at hR ⊢
    show sel (p.mg == k.1) (sel (p.pn == k.2.1) _ _) _
    cases h1 : p.mg == k.1 with
    | false =>
      refine nx o ?_
      unfold stepF hitF at hR
      rw [h1] at hR
      exact hR
    | true =>
      show sel (p.pn == k.2.1) _ _
      cases h2 : p.pn == k.2.1 with
      | false =>
        refine nx o ?_
        unfold stepF hitF at hR
        rw [h1, h2] at hR
        exact hR
      | true =>
        refine nx (some p) ?_
        unfold stepF hitF at hR
        rw [h1, h2] at hR
        exact hR
  · refine sF (decide_eq_false hlt) ?_
    rw [List.drop_eq_nil_iff.2 (by omega)] at hR
    cases o with
    | none => exact hR
    | some p => exact hR
set_option maxRecDepth 100000 in
theorem loop_F (M : Mc) (k : Ky) : LOkI Tryz.prog GL 9 KI YF 0 itC (fun s => .must (s = (SF M k none 0, Option.none) ∧ M.good) (endF M k (lastF k M.st.L))) := by
  refine loopI_ok (X := XIt) (ls := []) kcIt (by kernel_rfl) (LAllI.none (by kernel_rfl)) [0, 1, 8, 9, 10] [] (hF M k) (fun a => ((M.st.L.length : Int) - a.i).toNat) (preF M k) ?_ ?_
  · rintro s R ⟨⟨hs, hg⟩, hR⟩
    exact ⟨⟨none, 0⟩, hs, ⟨by simp only; omega, by simp only; omega⟩, hg, hR⟩
  · intro a R h
    have := (Box.of_eq (round_F M k a.i (nxtF M k a R) a.o) (inF_in M k a R h)).out
    exact Tr.run_mono _ (fun o ho => ho) this
noncomputable def LF (M : Mc) (k : Ky) (m : Nat) (fr : List NS) (s : St × Option NExit) : Tr (NExit × St × Option NExit) := .must ((m = 9 ∧ fr = fr0) ∧ s = (SF M k none 0, Option.none) ∧ M.good) (endF M k (lastF k M.st.L))
theorem loop_F' (M : Mc) (k : Ky) (m : Nat) (fr : List NS) : LOkI Tryz.prog GL m KI (bodyY XFe (psOf rgF) (asOf rgF) (bdOf rgF) fr) 0 itC (LF M k m fr) := by
  intro l rc N Γ0 w0 h0 hN h0k h0r hY s p Γ a w R Q hI hE hW hL hK
  unfold LF at hL
  obtain ⟨⟨⟨rfl, hfr⟩, h2⟩, h4⟩ := hL
  rw [hfr] at hY
  exact loop_F M k l rc N Γ0 w0 h0 hN h0k h0r hY s p Γ a w R Q hI hE hW ⟨h2, h4⟩ hK
noncomputable def lsF (M : Mc) (k : Ky) (m : Nat) (fr : List NS) : LI := [(0, [0, 1, 8, 9, 10], LF M k m fr)]
noncomputable def RF (M : Mc) (k : Ky) : St → Tr (NExit × St) := rangeT XFe KI cIt (lsF M k) 0 [4, 8, 9] 106 f_it rgF
noncomputable def codeIt : Code := f_it.body.getD .skip
theorem it_body : f_it.body = some codeIt := by kernel_rfl
theorem it_loops : loopsIn codeIt = [(0, itC)] := by kernel_rfl
theorem rgF_eq : rgF = .rangeFunc (.tmp 31) (psOf rgF) (asOf rgF) (bdOf rgF) := by kernel_rfl
theorem con_e : ∀ f T, XFe.con f = some T → Known Tryz.prog GL f T := kc_fd2
theorem rF_ok (M : Mc) (k : Ky) : RgOk Tryz.prog GL 4 0 rgF (RF M k) := by
  have h := rangeT_ok (X := XFe) con_e (K := KI) kcIt (ls := lsF M k) (id := 0) (out := [4, 8, 9]) (g := .tmp 31) (ps := psOf rgF) (assign := asOf rgF) (body := bdOf rgF) Tryz.func106 it_body (by kernel_rfl) (by kernel_rfl) (by kernel_rfl) (by kernel_rfl) (by kernel_rfl)
    (fun m fr => LAllI.one (id := 0) (body := itC) (live := [0, 1, 8, 9, 10]) (L := LF M k m fr) it_loops rfl (loop_F' M k m fr))
  rw [← rgF_eq] at h
  exact h
noncomputable def lpF (M : Mc) (k : Ky) : List (Nat × List Nat × (St → Tr (NExit × St))) := [(0, [3, 4, 8, 9, 31], RF M k)]
noncomputable def t_fd (M : Mc) (k : Ky) : Con := fun args regs => if regs.length = 4 then nfun Tryz.prog GL c_fd2 (lpF M k) f_fd args regs else .fail
theorem fd_loops : loopsIn (f_fd.body.getD .skip) = [] := by kernel_rfl
theorem fd_ranges : rangesIn (f_fd.body.getD .skip) = [(0, rgF)] := by kernel_rfl
theorem k_fd (M : Mc) (k : Ky) : Known Tryz.prog GL 19 (t_fd M k) := by
  refine known_loops (c := f_fd.body.getD .skip) 4 Tryz.func19 (by kernel_rfl) (by kernel_rfl) mixed kc_fd2 ⟨fun i b hb x hf => ?_, fun i b hb x hf => ?_⟩
  · rw [fd_loops] at hb
    cases hb
  · rw [fd_ranges, List.mem_singleton] at hb
    cases hb
    have : x = (0, [3, 4, 8, 9, 31], RF M k) := by simpa [lpF] using hf.symm
    subst this
    exact rF_ok M k
end Go.Proofs.YtdhhjgplnmpjcaaGreatDoor.mac
namespace Go.Proofs.YtdhhjgplnmpjcaaGreatDoor.mac
open Go Go.Nx Go.Proofs.YtdhhjgplnmpjcaaGreatDoor.pk Go.Proofs.YtdhhjgplnmpjcaaGreatDoor.ac Go.Proofs.YtdhhjgplnmpjcaaGreatDoor.sto Go.Proofs.YtdhhjgplnmpjcaaGreatDoor.pge Go.Proofs.YtdhhjgplnmpjcaaGreatDoor.dec
noncomputable def oFd (M : Mc) (x : Pg × Bool) : Out := ⟨.tu [pgV x.1, .c (.b x.2)], (inM M).map some⟩
noncomputable def eqSt (M : Mc) (x : Sp) (A : Prop) : Prop := some (stM M.st.sto (.hz 3 M.st.sto.l.length)) = some (stM x.sto (.hz 3 x.sto.l.length)) ∧ (some (mpReg M.st.sto.m) = some (mpReg x.sto.m) ∧ (some (ordReg (kyRows M.st.sto.l)) = some (ordReg (kyRows x.sto.l)) ∧ A))
noncomputable def fdT (M : Mc) (k : Ky) (R : Out → Prop) : Prop :=
  sel (k.2.2 != 16255)
    ((inP M.st = inP (mpP M.st) ∧ (mpP M.st).ok) ∧ eqSt M (mpP M.st) (([pgV ((mpP M.st).get k).1] = [pgV ((mpP M.st).get k).1] ∧ fits ((mpP M.st).get k).1) ∧ R (oFd M ((mpP M.st).get k))))
    ((inP M.st = inP (mpP M.st) ∧ (mpP M.st).ok) ∧ (((9 = 9 ∧ fr0 = fr0) ∧ (SF { M with st := mpP M.st } k none 0, Option.none) = (SF M k none 0, (Option.none : Option NExit)) ∧ M.good) ∧
      sel (lastF k M.st.L).isSome (([pgV ((lastF k M.st.L).getD pgZ)] = [pgV ((lastF k M.st.L).getD pgZ)] ∧ fits ((lastF k M.st.L).getD pgZ)) ∧ R (oFd M ((lastF k M.st.L).getD pgZ, true)))
        ([pgN pgZ] = [pgN pgZ] ∧ R (oFd M (pgZ, false)))))
theorem fd_tree (M : Mc) (a b c : Int) (R : Out → Prop) : (t_fd M (a, b, c) [.c (.p 0 0 0), .ag (kyNC (a, b, c))] (inM M)).run R = fdT M (a, b, c) R := by kernel_rfl
def Mc.find (M : Mc) (k : Ky) : Pg × Bool := match k.2.2 != 16255 with
  | true => M.st.get k
  | false => ((lastF k M.st.L).getD pgZ, (lastF k M.st.L).isSome)
theorem fold_mem (k : Ky) : ∀ (L : List Pg) (o : Option Pg) {p : Pg}, L.foldl (stepF k) o = some p → o = some p ∨ p ∈ L
  | [], o, p, h => .inl h
  | q :: L, o, p, h => by
    rcases fold_mem k L _ h with h | h
    · unfold stepF at h
      split at h
      · cases h; exact .inr (List.mem_cons_self ..)
      · exact .inl h
    · exact .inr (List.mem_cons_of_mem _ h)
theorem last_fits {M : Mc} (h : M.good) (k : Ky) : fits ((lastF k M.st.L).getD pgZ) := by
  cases hl : lastF k M.st.L with
  | none => exact fits_z
  | some p =>
    rcases fold_mem k _ _ hl with h' | h'
    · cases h'
    · exact h.fit p h'
set_option maxRecDepth 100000 in
theorem fd_in {M : Mc} {k : Ky} {R : Out → Prop} (hM : M.good) (h : R (oFd M (M.find k))) : fdT M k R := by
  unfold fdT
  rw [mpP_eq]
  unfold Mc.find at h
  cases hs : k.2.2 != 16255 with
  | true =>
    rw [hs] at h
    exact ⟨⟨rfl, hM.ok.2⟩, rfl, rfl, rfl, ⟨rfl, get_fits hM.fit k⟩, h⟩
  | false =>
    rw [hs] at h
    refine ⟨⟨rfl, hM.ok.2⟩, ⟨⟨rfl, rfl⟩, rfl, hM⟩, ?_⟩
    have hf := last_fits hM k
    cases hl : lastF k M.st.L with
    | none =>
      rw [hl] at h
      exact ⟨rfl, h⟩
    | some p =>
      rw [hl] at h hf
      exact ⟨⟨rfl, hf⟩, h⟩
noncomputable def tFd : Con := fun args regs => match args with
  | [.c (.p 0 0 0), .ag [.i _ a, .i _ b, .i _ c]] => onM regs fun M => .must (args = [.c (.p 0 0 0), .ag (kyNC (a, b, c))] ∧ M.good) (.ret (oFd M (M.find (a, b, c))))
  | _ => .fail
def mcZ : Mc := ⟨fun _ => mvZ, ixZ, ⟨1, ky0, false, []⟩⟩
attribute [local irreducible] t_fd in
set_option maxRecDepth 100000 in
theorem kFd : Known Tryz.prog GL 19 tFd := by
  refine Known_any (ι := Mc × Ky) (T := fun x => t_fd x.1 x.2) (mcZ, ky0) (fun x => k_fd x.1 x.2) fun args regs R h => ?_
  unfold tFd at h
  split at h
  case h_2 => exact h.elim
  rename_i _ a _ b _ c
  obtain ⟨M, rfl, hM, ⟨h1, hg⟩, h⟩ := onM_elim h
  rw [h1]
  exact ⟨(M, a, b, c), (Box.of_eq (fd_tree M a b c R) (fd_in hg h)).out⟩
end Go.Proofs.YtdhhjgplnmpjcaaGreatDoor.mac
namespace Go.Proofs.YtdhhjgplnmpjcaaGreatDoor.mac
open Go Go.Nx Go.Proofs.YtdhhjgplnmpjcaaGreatDoor.pk Go.Proofs.YtdhhjgplnmpjcaaGreatDoor.ac Go.Proofs.YtdhhjgplnmpjcaaGreatDoor.sto Go.Proofs.YtdhhjgplnmpjcaaGreatDoor.pge Go.Proofs.YtdhhjgplnmpjcaaGreatDoor.dec
noncomputable def t_snew : Con := fun args regs => nfun Tryz.prog GL (fun _ => Option.none) [] Tryz.f32 args regs
theorem k_snew : KnownF Tryz.prog GL 32 t_snew := known_inlF Tryz.func32 rfl (by kernel_rfl) mixed con_none (by kernel_rfl)
noncomputable def c_new : FuncId → Option Con := conOf [(32, t_snew)]
theorem kc_new : ∀ f T, c_new f = some T → Known Tryz.prog GL f T := (Knowns.cons k_snew.known .nil).get
noncomputable def t_new0 : Con := fun args regs => nfun Tryz.prog GL c_new [] Tryz.f11 args regs
theorem k_new0 : KnownF Tryz.prog GL 11 t_new0 := known_inlF Tryz.func11 rfl (by kernel_rfl) mixed kc_new (by kernel_rfl)
def nilsM : List (Nat × Nat × Nat × NC) := [0, 1, 2, 3, 4, 5, 6, 7, 8].flatMap fun g => [(0, 9 * g + 5, 0, .lr K3 []), (0, 9 * (g + 1), 1, .l .u8 [])]
def canonL (F : Nat) (cs : List (Nat × Nat × Reg)) (o : Out) : Tr Out :=
  match o.rg with
  | [] => .ret o
  | _ => canonO F cs none o
def canonV (F : Nat) (cs : List (Nat × Nat × Reg)) (T : Con) : Con := fun args regs => (T args regs).bind (canonL F cs)
theorem KnownF_canonV {P : Program} {gl : List Nat} {f : FuncId} {T : Con} (h : KnownF P gl f T) (F : Nat) (cs : List (Nat × Nat × Reg)) : KnownF P gl f (canonV F cs T) := by
  refine h.weak fun args regs R hR => ?_
  unfold canonV at hR
  rw [Tr.run_bind] at hR
  refine Tr.run_mono _ (fun o ho => ?_) hR
  unfold canonL at ho
  split at ho
  · exact ⟨_, WeakF.refl _, ho⟩
  · exact canonO_ok ho
noncomputable def t_newC : Con := softT [] [] [] nilsM 4 (canonV 3 [(1, 2, ordReg [])] t_new0)
theorem k_newC : Known Tryz.prog GL 11 t_newC := (KnownF_canonV k_new0 3 [(1, 2, ordReg [])]).soft [] [] [] nilsM 4
def mcN (n : Int) : Mc := ⟨fun _ => mvZ, ixZ, ⟨n, (0, 0, 0), false, []⟩⟩
noncomputable def oNo : Out := ⟨.tu [.c .pn, .c (.e eRng)], []⟩
noncomputable def oNw (n : Int) : Out := ⟨.tu [.c (.p 0 0 0), .c .en], (inM (mcN n)).map some⟩
theorem nw_tree (n : Int) (R : Out → Prop) : (t_newC [.c (.i .i64 n)] []).run R = sel (decide (n < 1)) (R oNo) (sel (decide (n > 800)) (R oNo) (R (oNw n))) := by kernel_rfl
noncomputable def tNewM : Con := fun args regs => match args, regs with
  | [.c (.i _ n)], [] => .must (args = [.c (.i .i64 n)]) (.br (decide (n < 1)) (.ret oNo) (.br (decide (n > 800)) (.ret oNo) (.ret (oNw n))))
  | _, _ => .fail
attribute [local irreducible] t_newC in
set_option maxRecDepth 100000 in
theorem kNewM : Known Tryz.prog GL 11 tNewM := by
  refine k_newC.less fun args regs R h => ?_
  unfold tNewM at h
  split at h
  case h_2 => exact h.elim
  rename_i n
  rw [h.1]
  exact (Box.of_eq (nw_tree n R) h.2).out
theorem mcN_good {n : Int} (h1 : 1 ≤ n) (h8 : n ≤ 800) : (mcN n).good := by
  refine ⟨fun k hk => rfl, List.nodup_nil, h1, h8, ?_, ?_, fun k => fits_z, fun k => Nat.zero_le _⟩
  · show ((0 : Nat) : Int) ≤ n
    omega
  · intro p hp
    cases hp
end Go.Proofs.YtdhhjgplnmpjcaaGreatDoor.mac
namespace Go.Proofs.YtdhhjgplnmpjcaaGreatDoor.mac
open Go Go.Nx Go.Proofs.YtdhhjgplnmpjcaaGreatDoor.pk Go.Proofs.YtdhhjgplnmpjcaaGreatDoor.ac Go.Proofs.YtdhhjgplnmpjcaaGreatDoor.sto Go.Proofs.YtdhhjgplnmpjcaaGreatDoor.pge Go.Proofs.YtdhhjgplnmpjcaaGreatDoor.dec
noncomputable def c_pgs0 : FuncId → Option Con := conOf [(51, tKe)]
theorem kc_pgs0 : ∀ f T, c_pgs0 f = some T → Known Tryz.prog GL f T := (Knowns.cons kKe.known .nil).get
noncomputable def t_pgs0 : Con := fun args regs => nfun Tryz.prog GL c_pgs0 [] Tryz.f17 args regs
theorem k_pgs0 : Known Tryz.prog GL 17 t_pgs0 := known_inl Tryz.func17 rfl (by kernel_rfl) mixed kc_pgs0 (by kernel_rfl)
noncomputable def oPgs (M : Mc) : Out := ⟨.v (.c (.lr K3 (kyRows (M.st.L.map kyP)))), (inM M).map some⟩
noncomputable def t_pgsC : Con := softT [] [4] [] [] 4 t_pgs0
theorem k_pgsC : Known Tryz.prog GL 17 t_pgsC := k_pgs0.soft [] [4] [] [] 4
theorem pgs_tree (M : Mc) (R : Out → Prop) : (t_pgsC [.c (.p 0 0 0)] (inM M)).run R = ((inP M.st = inP (mpP M.st) ∧ (mpP M.st).ok) ∧ ((mpP M.st).L.length = (kyRows ((mpP M.st).L.map kyP)).length ∧ R (oPgs { M with st := mpP M.st }))) := by kernel_rfl
noncomputable def tPgs : Con := fun args regs => match args with
  | [.c (.p 0 0 0)] => onM regs fun M => .ret (oPgs M)
  | _ => .fail
attribute [local irreducible] t_pgsC in
set_option maxRecDepth 100000 in
theorem kPgs : Known Tryz.prog GL 17 tPgs := by
  refine k_pgsC.less fun args regs R h => ?_
  unfold tPgs at h
  split at h
  case h_2 => exact h.elim
  obtain ⟨M, rfl, hM, h⟩ := onM_elim h
  have e : ({ M with st := mpP M.st } : Mc) = M := by rw [mpP_eq]
  refine (Box.of_eq (pgs_tree M R) ⟨⟨by rw [mpP_eq], by rw [mpP_eq]; exact hM.2⟩, by rw [kyRows_length, List.length_map], ?_⟩).out
  rw [e]
  exact h
noncomputable def c_f14 : FuncId → Option Con := conOf [(11, tNewM), (17, tPgs), (12, tPk), (24, t_is)]
theorem kc_f14 : ∀ f T, c_f14 f = some T → Known Tryz.prog GL f T := (Knowns.cons kNewM (.cons kPgs (.cons kPk (.cons k_is .nil)))).get
noncomputable def t_f14 : Con := fun args regs => nfun Tryz.prog GL c_f14 [] Tryz.f8 args regs
theorem k_f14 : Known Tryz.prog GL 8 t_f14 := known_inl Tryz.func8 rfl (by kernel_rfl) mixed kc_f14 (by kernel_rfl)
noncomputable def f14T (R : Out → Prop) : Prop := ([NV.c (.i .i64 5)] = [NV.c (.i .i64 5)]) ∧ ((inM (mcN 5) = inM (bk (mcN 5)) ∧ (bk (mcN 5)).ok) ∧ ((inM (bk (mcN 5)) = inM (bk (bk (mcN 5))) ∧ (bk (bk (mcN 5))).ok) ∧ R ⟨.v (.c (.b true)), []⟩))
theorem f14_tree (R : Out → Prop) : (t_f14 [] []).run R = f14T R := by kernel_rfl
noncomputable def tF14 : Con := fun args regs => match args, regs with
  | [], [] => .ret ⟨.v (.c (.b true)), []⟩
  | _, _ => .fail
attribute [local irreducible] t_f14 in
set_option maxRecDepth 100000 in
theorem kF14 : Known Tryz.prog GL 8 tF14 := by
  refine k_f14.less fun args regs R h => ?_
  unfold tF14 at h
  split at h
  case h_2 => exact h.elim
  have hg := mcN_good (n := 5) (by omega) (by omega)
  refine (Box.of_eq (f14_tree R) ?_).out
  unfold f14T
  rw [hg.bk, hg.bk]
  exact ⟨rfl, ⟨rfl, hg.ok⟩, ⟨rfl, hg.ok⟩, h⟩
end Go.Proofs.YtdhhjgplnmpjcaaGreatDoor.mac
namespace Go.Proofs.YtdhhjgplnmpjcaaGreatDoor.mac
open Go Go.Nx Go.Proofs.YtdhhjgplnmpjcaaGreatDoor.pk Go.Proofs.YtdhhjgplnmpjcaaGreatDoor.ac Go.Proofs.YtdhhjgplnmpjcaaGreatDoor.sto Go.Proofs.YtdhhjgplnmpjcaaGreatDoor.pge Go.Proofs.YtdhhjgplnmpjcaaGreatDoor.dec
noncomputable def t_pmg : Con := fun args regs => nfun Tryz.prog GL (fun _ => Option.none) [] Tryz.f58 args regs
theorem k_pmg : Known Tryz.prog GL 58 t_pmg := known_inl Tryz.func58 rfl (by kernel_rfl) mixed con_none (by kernel_rfl)
noncomputable def c_op0 : FuncId → Option Con := conOf [(58, t_pmg)]
theorem kc_op0 : ∀ f T, c_op0 f = some T → Known Tryz.prog GL f T := (Knowns.cons k_pmg .nil).get
noncomputable def t_op0 : Con := fun args regs => nfun Tryz.prog GL c_op0 [] Tryz.f23 args regs
theorem k_op0 : Known Tryz.prog GL 23 t_op0 := known_inl Tryz.func23 rfl (by kernel_rfl) mixed kc_op0 (by kernel_rfl)
def Mc.openP (M : Mc) (g : Nat) : Ky × Bool := match (M.v g).opn with
  | true => (kyP (M.v g).p, true)
  | false => ((0, 0, 0), false)
noncomputable def oOp (M : Mc) (x : Ky × Bool) : Out := ⟨.tu [.ag (kyNC x.1), .c (.b x.2)], (inM M).map some⟩
noncomputable def opT (M : Mc) (g : Nat) (R : Out → Prop) : Prop := sel (!(M.v g).opn) (R (oOp M ((0, 0, 0), false))) (R (oOp M (kyP (M.v g).p, true)))
theorem op_1 (M : Mc) (R : Out → Prop) : (t_op0 [.c (.p 0 0 0), .c (.i .i64 1)] (inM M)).run R = opT M 1 R := by kernel_rfl
theorem op_2 (M : Mc) (R : Out → Prop) : (t_op0 [.c (.p 0 0 0), .c (.i .i64 2)] (inM M)).run R = opT M 2 R := by kernel_rfl
theorem op_3 (M : Mc) (R : Out → Prop) : (t_op0 [.c (.p 0 0 0), .c (.i .i64 3)] (inM M)).run R = opT M 3 R := by kernel_rfl
theorem op_4 (M : Mc) (R : Out → Prop) : (t_op0 [.c (.p 0 0 0), .c (.i .i64 4)] (inM M)).run R = opT M 4 R := by kernel_rfl
theorem op_5 (M : Mc) (R : Out → Prop) : (t_op0 [.c (.p 0 0 0), .c (.i .i64 5)] (inM M)).run R = opT M 5 R := by kernel_rfl
theorem op_6 (M : Mc) (R : Out → Prop) : (t_op0 [.c (.p 0 0 0), .c (.i .i64 6)] (inM M)).run R = opT M 6 R := by kernel_rfl
theorem op_7 (M : Mc) (R : Out → Prop) : (t_op0 [.c (.p 0 0 0), .c (.i .i64 7)] (inM M)).run R = opT M 7 R := by kernel_rfl
theorem op_8 (M : Mc) (R : Out → Prop) : (t_op0 [.c (.p 0 0 0), .c (.i .i64 8)] (inM M)).run R = opT M 8 R := by kernel_rfl
theorem op_in {M : Mc} {g : Nat} {R : Out → Prop} (h : R (oOp M (M.openP g))) : opT M g R := by
  unfold opT
  unfold Mc.openP at h
  cases ho : (M.v g).opn with
  | true => rw [ho] at h; exact h
  | false => rw [ho] at h; exact h
noncomputable def tOp : Con := fun args regs => match args with
  | [.c (.p 0 0 0), .c (.i _ g)] => onM regs fun M => .must (args = [.c (.p 0 0 0), .c (.i .i64 g)] ∧ 1 ≤ g ∧ g ≤ 8) (.ret (oOp M (M.openP g.toNat)))
  | _ => .fail
theorem op_g (M : Mc) (R : Out → Prop) (g : Int) (h : 1 ≤ g ∧ g ≤ 8) : (t_op0 [.c (.p 0 0 0), .c (.i .i64 g)] (inM M)).run R = opT M g.toNat R := by
  have hg : g = 1 ∨ g = 2 ∨ g = 3 ∨ g = 4 ∨ g = 5 ∨ g = 6 ∨ g = 7 ∨ g = 8 := by omega
  rcases hg with rfl | rfl | rfl | rfl | rfl | rfl | rfl | rfl
  · exact op_1 M R
  · exact op_2 M R
  · exact op_3 M R
  · exact op_4 M R
  · exact op_5 M R
  · exact op_6 M R
  · exact op_7 M R
  · exact op_8 M R
attribute [local irreducible] t_op0 in
set_option maxRecDepth 100000 in
theorem kOp : Known Tryz.prog GL 23 tOp := by
  refine k_op0.less fun args regs R h => ?_
  unfold tOp at h
  split at h
  case h_2 => exact h.elim
  rename_i _ g
  obtain ⟨M, rfl, hM, ⟨h1, hg⟩, h⟩ := onM_elim h
  rw [h1]
  exact (Box.of_eq (op_g M R g hg) (op_in h)).out
end Go.Proofs.YtdhhjgplnmpjcaaGreatDoor.mac
namespace Go.Proofs.YtdhhjgplnmpjcaaGreatDoor.bm
open Go.Proofs.YtdhhjgplnmpjcaaGreatDoor.sto (sT sF)
open Go Go.Nx Go.Proofs.YtdhhjgplnmpjcaaGreatDoor.pk Go.Proofs.YtdhhjgplnmpjcaaGreatDoor.ln Go.Proofs.YtdhhjgplnmpjcaaGreatDoor.hd Go.Proofs.YtdhhjgplnmpjcaaGreatDoor.lb Go.Proofs.YtdhhjgplnmpjcaaGreatDoor.sv
theorem byT {x : Int} (h : 0 ≤ x ∧ x < 256) : ∃ m, m < 256 ∧ x = Int.ofNat m := ⟨x.toNat, by omega, by show x = ((x.toNat : Nat) : Int); omega⟩
noncomputable def c_rodd : FuncId → Option Con := conOf [(138, ones.tOnes)]
theorem kc_rodd : ∀ f T, c_rodd f = some T → Known Tryz.prog GL f T := (Knowns.cons (known_gl ones.kOnes) .nil).get
noncomputable def t_rodd : Con := fun args regs => nfun Tryz.prog GL c_rodd [] Tryz.f139 args regs
theorem k_rodd : Known Tryz.prog GL 139 t_rodd := known_inl Tryz.func139 rfl (by kernel_rfl) mixed kc_rodd (by kernel_rfl)
theorem rodd_tree (b : Int) (R : Out → Prop) : (t_rodd [.c (.i .u8 b)] []).run R = ((0 ≤ IntKind.i64.wrap b ∧ IntKind.i64.wrap b < 9223372036854775808) ∧ R (oB ((ones.bl (IntKind.i64.wrap b).toNat : Int).tmod 2 == 1))) := by kernel_rfl
theorem rodd_all : ∀ m < 256, ones.par m 8 = odd (Int.ofNat m) := by decide +kernel
noncomputable def tROdd : Con := fun args regs => match args, regs with
  | [.c (.i .u8 b)], [] => .must (0 ≤ b ∧ b < 256) (.ret (oB (odd b)))
  | _, _ => .fail
theorem rodd_in {b : Int} (h : 0 ≤ b ∧ b < 256) : ((ones.bl (IntKind.i64.wrap b).toNat : Int).tmod 2 == 1) = odd b := by
  obtain ⟨m, hm, rfl⟩ := byT h
  have hw : IntKind.i64.wrap (Int.ofNat m) = Int.ofNat m := by rw [IntKind.wrap_i64]; show ((m : Int) + _) % _ - _ = (m : Int); omega
  rw [hw, show (Int.ofNat m).toNat = m from rfl, ← rodd_all m hm]
  have hp := ones.bl_par 8 m (by omega)
  rw [Int.tmod_eq_emod_of_nonneg (by omega)]
  cases h2 : ones.par m 8 with
  | true =>
    rw [h2] at hp
    have hp : ones.bl m % 2 = 1 := hp
    rw [beq_iff_eq]
    omega
  | false =>
    rw [h2] at hp
    have hp : ones.bl m % 2 = 0 := hp
    rw [beq_eq_false_iff_ne]
    omega
set_option maxRecDepth 100000 in
theorem kROdd : Known Tryz.prog GL 139 tROdd := by
  refine k_rodd.less fun args regs R h => Box.out ?_
  unfold tROdd at h
  split at h
  case h_2 => exact h.elim
  rename_i b
  have h1 := h.1
  have h2 : R (oB (odd b)) := h.2
  clear h
  refine Box.of_eq (rodd_tree b R) ⟨?_, by rw [rodd_in h1]; exact h2⟩
  rw [IntKind.wrap_i64]
  omega
noncomputable def c_rmk : FuncId → Option Con := conOf [(139, tROdd)]
theorem kc_rmk : ∀ f T, c_rmk f = some T → Known Tryz.prog GL f T := (Knowns.cons kROdd .nil).get
noncomputable def t_rmk : Con := fun args regs => nfun Tryz.prog GL c_rmk [] Tryz.f97 args regs
theorem k_rmk : Known Tryz.prog GL 97 t_rmk := known_inl Tryz.func97 rfl (by kernel_rfl) mixed kc_rmk (by kernel_rfl)
theorem rmk_tree (c : Int) (R : Out → Prop) : (t_rmk [.c (.i .u8 c)] []).run R = ((0 ≤ aU c 127 ∧ aU c 127 < 256) ∧ sel (odd (aU c 127)) (R ⟨.v (.c (.i .u8 (aU c 127))), []⟩) (R ⟨.v (.c (.i .u8 (oU (aU c 127) 128))), []⟩)) := by kernel_rfl
set_option maxRecDepth 100000 in
theorem kRMkO : Known Tryz.prog GL 97 tMkO := by
  refine k_rmk.less fun args regs R h => Box.out ?_
  unfold tMkO at h
  split at h
  case h_2 => exact h.elim
  rename_i c
  have h2 : R ⟨.v (.c (.i .u8 (mkO c))), []⟩ := h
  clear h
  refine Box.of_eq (rmk_tree c R) ⟨aU_in _ _, ?_⟩
  unfold mkO at h2
  cases hc : odd (aU c 127) with
  | true => rw [hc] at h2; exact selT rfl h2
  | false => rw [hc] at h2; exact selF rfl h2
noncomputable abbrev f_odd := Tryz.f39
noncomputable def c_odd : FuncId → Option Con := conOf [(97, tMkO)]
theorem kc_odd : ∀ f T, c_odd f = some T → Known Tryz.prog GL f T := (Knowns.cons kRMkO .nil).get
noncomputable def X_odd : Cx := { P := Tryz.prog, con := c_odd, glob := GL, m := 0, loops := [] }
def arU (xs : List Int) : Reg := ⟨1, 5, .ints .u8 xs⟩
noncomputable def ouC : Option (List Int × Nat) → NC
  | none => .sn
  | some x => .h 0 0 x.2
noncomputable def ouR : Option (List Int × Nat) → List (Option Reg)
  | none => []
  | some x => [some (arU x.1)]
noncomputable def sOd (bs : List Int) (n i : Int) (o : Option (List Int × Nat)) : St := { fr := frame 27 [(0, .v (.c (.l .u8 bs))), (1, .v (.c (.i .i64 n))), (4, .v (.c .sn)), (5, .v (.c (ouC o))), (6, .v (.c (.i .i64 i)))], rg := ouR o }
noncomputable def dOd (o : Option (List Int × Nat)) : St := { fr := frame 27 [(5, .v (.c (ouC o)))], rg := ouR o }
noncomputable def rOd (s : St) : Tr RO := roundT X_odd 0 [0, 1, 4, 5, 6] [5] (bodyLoop f_odd 0) s
def ixU (i : Int) (l : Nat) (A : Prop) : Prop := sel (decide (0 ≤ i)) (sel (decide (i < (l : Int))) (sel (decide (i.toNat < l)) A False) False) False
def apU (m : Nat) (A : Prop) : Prop := sel (decide (0 + m ≤ m)) (sel (decide ((m + 1) * bytesT Tryz.prog 5 ≤ 140737488355328)) (sel (decide (m + 1 ≤ 9223372036854775807)) A False) False) False
noncomputable def nxOd (bs : List Int) (n i : Int) (R : RO → Prop) (xs : List Int) (m : Nat) : Prop := R (.next (sOd bs n (IntKind.i64.wrap (i + 1)) (some (xs, m))))
theorem od_0 (bs : List Int) (n i : Int) (R : RO → Prop) : (rOd (sOd bs n i none)).run R =
    sel (decide (i < n)) (sel (decide (i < (bs.length : Int))) (ixU i bs.length (nxOd bs n i R [mkO (bs.getD i.toNat 0)] 1)) (nxOd bs n i R [mkO 32] 1)) (R (.done .normal (dOd none))) := by kernel_rfl
theorem od_1 (bs : List Int) (n i : Int) (xs : List Int) (R : RO → Prop) : (rOd (sOd bs n i (some (xs, xs.length)))).run R =
    sel (decide (i < n)) (sel (decide (i < (bs.length : Int))) (ixU i bs.length (apU xs.length (nxOd bs n i R (List.take xs.length xs ++ [mkO (bs.getD i.toNat 0)]) (xs.length + 1)))) (apU xs.length (nxOd bs n i R (List.take xs.length xs ++ [mkO 32]) (xs.length + 1)))) (R (.done .normal (dOd (some (xs, xs.length))))) := by kernel_rfl
noncomputable def odV (bs : List Int) (k : Nat) : List Int := (List.range k).map fun i => mkO (bs.getD i 32)
theorem odV_len (bs : List Int) (k : Nat) : (odV bs k).length = k := by unfold odV; rw [List.length_map, List.length_range]
theorem odV_succ (bs : List Int) (k : Nat) : odV bs (k + 1) = odV bs k ++ [mkO (bs.getD k 32)] := by unfold odV; rw [List.range_succ, List.map_append]; rfl
noncomputable def oOd (bs : List Int) : Nat → Option (List Int × Nat)
  | 0 => none
  | k + 1 => some (odV bs (k + 1), k + 1)
theorem bytesU : bytesT Tryz.prog 5 = 1 := by kernel_rfl
theorem apU_in {m : Nat} {A : Prop} (hm : m ≤ 1000) (h : A) : apU m A := by
  unfold apU
  rw [bytesU]
  exact sT (decide_eq_true (by omega)) (sT (decide_eq_true (by omega)) (sT (decide_eq_true (by omega)) h))
theorem ixU_in {i : Int} {l : Nat} {A : Prop} (h : 0 ≤ i ∧ i < (l : Int)) (hA : A) : ixU i l A := sT (decide_eq_true h.1) (sT (decide_eq_true h.2) (sT (decide_eq_true (by omega)) hA))
def rdOd (s : St) : Option (List Int × Int) := match s.fr[(0 : Nat)]?, s.fr[(1 : Nat)]? with
  | some (.v (.c (.l _ bs))), some (.v (.c (.i _ n))) => some (bs, n)
  | _, _ => none
noncomputable def lOd (s : St) : Tr (NExit × St) := match rdOd s with
  | some x => .must (s = sOd x.1 x.2 0 none ∧ 0 < x.2 ∧ x.2 ≤ 100) (.ret (.normal, dOd (some (odV x.1 x.2.toNat, x.2.toNat))))
  | none => .fail
structure AOd where
  bs : List Int
  n : Int
  k : Nat
noncomputable def hOd (a : AOd) : St := sOd a.bs a.n (a.k : Int) (oOd a.bs a.k)
def preOd (a : AOd) (R : NExit × St → Prop) : Prop := ((a.k : Int) ≤ a.n ∧ 0 < a.n ∧ a.n ≤ 100) ∧ R (.normal, dOd (some (odV a.bs a.n.toNat, a.n.toNat)))
def nxtOd (a : AOd) (R : NExit × St → Prop) (o : RO) : Prop := match o with
  | .next s => ∃ y, s = hOd y ∧ (y.n - y.k).toNat < (a.n - a.k).toNat ∧ preOd y R
  | .done e s => R (e, s)
theorem getD_in {bs : List Int} {k : Nat} (h : k < bs.length) : bs.getD k 32 = bs.getD k 0 := by
  rw [List.getD_eq_getElem?_getD, List.getD_eq_getElem?_getD, List.getElem?_eq_getElem h]; rfl
theorem getD_out {bs : List Int} {k : Nat} (h : ¬ k < bs.length) : bs.getD k 32 = 32 := by
  rw [List.getD_eq_getElem?_getD, List.getElem?_eq_none (by omega)]; rfl
theorem od_in (a : AOd) (R : NExit × St → Prop) (h : preOd a R) : Box ((rOd (hOd a)).run (nxtOd a R)) := by
  obtain ⟨bs, n, k⟩ := a
  obtain ⟨⟨h1, h2, h3⟩, hR⟩ := h
  simp only at h1 h2 h3 hR
  have hw : IntKind.i64.wrap ((k : Int) + 1) = ((k + 1 : Nat) : Int) := by rw [IntKind.wrap_i64]; omega
  have nx : ∀ xs m, (k : Int) < n → xs = odV bs (k + 1) → m = k + 1 → nxOd bs n (k : Int) (nxtOd ⟨bs, n, k⟩ R) xs m := by
    rintro xs m hk rfl rfl
    unfold nxOd
    rw [hw]
    exact ⟨⟨bs, n, k + 1⟩, rfl, by simp only; omega, ⟨by simp only; omega, h2, h3⟩, hR⟩
  match k, h1, hw, nx with
  | 0, h1, hw, nx =>
    have e : odV bs 1 = [mkO (bs.getD 0 32)] := rfl
    refine Box.of_eq (od_0 bs n 0 _) (sT (decide_eq_true h2) ?_)
    by_cases hb : 0 < bs.length
    · exact sT (decide_eq_true (by omega)) (ixU_in ⟨by omega, by omega⟩ (nx _ _ h2 (by rw [e, getD_in hb]; rfl) rfl))
    · exact sF (decide_eq_false (by omega)) (nx _ _ h2 (by rw [e, getD_out hb]) rfl)
  | k + 1, h1, hw, nx =>
    have hl := odV_len bs (k + 1)
    have e := odV_succ bs (k + 1)
    have ha : hOd ⟨bs, n, k + 1⟩ = sOd bs n ((k + 1 : Nat) : Int) (some (odV bs (k + 1), (odV bs (k + 1)).length)) := by
      show sOd bs n _ (some (odV bs (k + 1), k + 1)) = _
      rw [hl]
    rw [ha]
    refine Box.of_eq (od_1 bs n _ _ _) ?_
    by_cases hk : ((k + 1 : Nat) : Int) < n
    · refine sT (decide_eq_true hk) ?_
      rw [List.take_length, hl]
      by_cases hb : k + 1 < bs.length
      · exact sT (decide_eq_true (by omega)) (ixU_in ⟨by omega, by omega⟩ (apU_in (by omega) (nx _ _ hk (by rw [e, getD_in hb]; rfl) rfl)))
      · exact sF (decide_eq_false (by omega)) (apU_in (by omega) (nx _ _ hk (by rw [e, getD_out hb]) rfl))
    · refine sF (decide_eq_false hk) ?_
      have hn : n.toNat = k + 1 := by omega
      rw [hn] at hR
      rw [hl]
      exact hR
set_option maxRecDepth 100000 in
theorem loop_od : LOk Tryz.prog GL 0 0 (bodyLoop f_odd 0) lOd := by
  refine loop_ok (X := X_odd) kc_odd mixed (LAll.none (by kernel_rfl)) [0, 1, 4, 5, 6] [5] hOd (fun a => (a.n - a.k).toNat) preOd ?_ ?_
  · intro s R h
    unfold lOd at h
    split at h
    case h_2 => exact h.elim
    rename_i x hx
    obtain ⟨⟨hs, h1, h2⟩, hR⟩ := h
    exact ⟨⟨x.1, x.2, 0⟩, hs, ⟨by simp only; omega, h1, h2⟩, hR⟩
  · intro a R h
    exact Tr.run_mono _ (fun o ho => ho) (od_in a R h).out
noncomputable def t_odd0 : Con := fun args regs => if regs.length = 0 then nfun Tryz.prog GL c_odd [(0, [0, 1, 4, 5, 6], lOd)] f_odd args regs else .fail
theorem k_odd0 : Known Tryz.prog GL 39 t_odd0 := known_loops 0 Tryz.func39 rfl (by kernel_rfl) mixed kc_odd (LAll.one (id := 0) (body := bodyLoop f_odd 0) (by kernel_rfl) rfl loop_od)
noncomputable def t_oddC : Con := softT [] [0] [] [] 0 t_odd0
theorem k_oddC : Known Tryz.prog GL 39 t_oddC := k_odd0.soft [] [0] [] [] 0
noncomputable def oLu (xs : List Int) : Out := ⟨.v (.c (.l .u8 xs)), []⟩
theorem odd_tree (bs : List Int) (n : Int) (R : Out → Prop) : (t_oddC [.c (.l .u8 bs), .c (.i .i64 n)] []).run R = ((sOd bs n 0 none = sOd bs n 0 none ∧ 0 < n ∧ n ≤ 100) ∧ (n.toNat = (odV bs n.toNat).length ∧ R (oLu (odV bs n.toNat)))) := by kernel_rfl
noncomputable def tOddB : Con := fun args regs => match args, regs with
  | [.c (.l _ bs), .c (.i _ n)], [] => .must (args = [.c (.l .u8 bs), .c (.i .i64 n)] ∧ 0 < n ∧ n ≤ 100) (.ret (oLu (odV bs n.toNat)))
  | _, _ => .fail
attribute [local irreducible] t_oddC in
set_option maxRecDepth 100000 in
theorem kOddB : Known Tryz.prog GL 39 tOddB := by
  refine k_oddC.less fun args regs R h => ?_
  unfold tOddB at h
  split at h
  case h_2 => exact h.elim
  rename_i _ bs _ n
  obtain ⟨⟨h1, h2, h3⟩, h⟩ := h
  rw [h1]
  exact (Box.of_eq (odd_tree bs n R) ⟨⟨rfl, h2, h3⟩, (odV_len _ _).symm, h⟩).out
end Go.Proofs.YtdhhjgplnmpjcaaGreatDoor.bm
namespace Go.Proofs.YtdhhjgplnmpjcaaGreatDoor.bm
open Go.Proofs.YtdhhjgplnmpjcaaGreatDoor.sto (sT sF)
open Go.Proofs.YtdhhjgplnmpjcaaGreatDoor.pge (Hx)
open Go Go.Nx Go.Proofs.YtdhhjgplnmpjcaaGreatDoor.pk Go.Proofs.YtdhhjgplnmpjcaaGreatDoor.ln Go.Proofs.YtdhhjgplnmpjcaaGreatDoor.hd Go.Proofs.YtdhhjgplnmpjcaaGreatDoor.lb Go.Proofs.YtdhhjgplnmpjcaaGreatDoor.sv
noncomputable def c_pl0 : FuncId → Option Con := conOf [(9, num.tNumV)]
theorem kc_pl0 : ∀ f T, c_pl0 f = some T → Known Tryz.prog GL f T := (Knowns.cons (known_gl num.kNumV) .nil).get
noncomputable def t_pl0 : Con := fun args regs => nfun Tryz.prog GL c_pl0 [] Tryz.f21 args regs
theorem k_pl0 : Known Tryz.prog GL 21 t_pl0 := known_inl Tryz.func21 rfl (by kernel_rfl) mixed kc_pl0 (by kernel_rfl)
noncomputable def t_rright : Con := fun args regs => nfun Tryz.prog GL (fun _ => Option.none) [] Tryz.f94 args regs
theorem k_rright : Known Tryz.prog GL 94 t_rright := known_inl Tryz.func94 rfl (by kernel_rfl) mixed con_none (by kernel_rfl)
noncomputable def c_rplaced : FuncId → Option Con := conOf [(96, tRPut)]
theorem kc_rplaced : ∀ f T, c_rplaced f = some T → Known Tryz.prog GL f T := (Knowns.cons kg_rput .nil).get
noncomputable def t_rplaced : Con := fun args regs => nfun Tryz.prog GL c_rplaced [] Tryz.f95 args regs
theorem k_rplaced : Known Tryz.prog GL 95 t_rplaced := known_inl Tryz.func95 rfl (by kernel_rfl) mixed kc_rplaced (by kernel_rfl)
noncomputable def c_rpkd : FuncId → Option Con := conOf [(96, tRPut)]
theorem kc_rpkd : ∀ f T, c_rpkd f = some T → Known Tryz.prog GL f T := (Knowns.cons kg_rput .nil).get
noncomputable def t_rpkd : Con := fun args regs => nfun Tryz.prog GL c_rpkd [] Tryz.f40 args regs
theorem k_rpkd : Known Tryz.prog GL 40 t_rpkd := known_inl Tryz.func40 rfl (by kernel_rfl) mixed kc_rpkd (by kernel_rfl)
noncomputable abbrev f_hb := Tryz.f38
noncomputable def c_hb : FuncId → Option Con := conOf [(94, t_rright), (95, t_rplaced), (96, tRPut), (40, t_rpkd)]
theorem kc_hb : ∀ f T, c_hb f = some T → Known Tryz.prog GL f T := (Knowns.cons k_rright (.cons k_rplaced (.cons kg_rput (.cons k_rpkd .nil)))).get
noncomputable def X_hb : Cx := { P := Tryz.prog, con := c_hb, glob := GL, m := 0, loops := [] }
def alB (h : Hx) : Nat → Bool
  | 0 => h.c0
  | 1 => h.c1
  | 2 => h.c2
  | 3 => h.c3
  | 4 => h.c4
  | 5 => h.c5
  | 6 => h.c6
  | 7 => h.c7
  | 8 => h.c8
  | 9 => h.c9
  | 10 => h.c10
  | _ => false
def pw (k : Nat) : Int := Int.ofNat (2 ^ k)
noncomputable def alV (h : Hx) : Nat → Int
  | 0 => 0
  | k + 1 => bif alB h k then bits .or .i64 (alV h k) (pw k) else alV h k
noncomputable def hxR (h : Hx) : Reg := ⟨15, 48, .cells h.nc⟩
noncomputable def sHB (xs : List Int) (h : Hx) (all : Int) (i : Int) : St := { fr := frame 55 [(1, .v (.c (.l .u8 xs))), (2, .v (.c (.p 0 0 0))), (4, .v (.c .sn)), (5, .v (.c (.i .i64 0))), (6, .v (.c (.i .i64 all))), (7, .v (.c (.i .i64 i)))], rg := [some (hxR h)] }
noncomputable def dHB (xs : List Int) (h : Hx) (all : Int) : St := { fr := frame 55 [(1, .v (.c (.l .u8 xs))), (2, .v (.c (.p 0 0 0))), (4, .v (.c .sn)), (5, .v (.c (.i .i64 0))), (6, .v (.c (.i .i64 all)))], rg := [some (hxR h)] }
noncomputable def rHB (s : St) : Tr RO := roundT X_hb 0 [1, 2, 4, 5, 6, 7] [1, 2, 4, 5, 6] (bodyLoop f_hb 0) s
noncomputable def nHB (xs : List Int) (h : Hx) (all : Int) (k : Nat) (R : RO → Prop) : Prop := sel (alB h k) (R (.next (sHB xs h (bits .or .i64 all (pw k)) (Int.ofNat (k + 1))))) (R (.next (sHB xs h all (Int.ofNat (k + 1)))))
theorem hb_0 (xs : List Int) (h : Hx) (all : Int) (R : RO → Prop) : (rHB (sHB xs h all 0)).run R = nHB xs h all 0 R := by kernel_rfl
theorem hb_1 (xs : List Int) (h : Hx) (all : Int) (R : RO → Prop) : (rHB (sHB xs h all 1)).run R = nHB xs h all 1 R := by kernel_rfl
theorem hb_2 (xs : List Int) (h : Hx) (all : Int) (R : RO → Prop) : (rHB (sHB xs h all 2)).run R = nHB xs h all 2 R := by kernel_rfl
theorem hb_3 (xs : List Int) (h : Hx) (all : Int) (R : RO → Prop) : (rHB (sHB xs h all 3)).run R = nHB xs h all 3 R := by kernel_rfl
theorem hb_4 (xs : List Int) (h : Hx) (all : Int) (R : RO → Prop) : (rHB (sHB xs h all 4)).run R = nHB xs h all 4 R := by kernel_rfl
theorem hb_5 (xs : List Int) (h : Hx) (all : Int) (R : RO → Prop) : (rHB (sHB xs h all 5)).run R = nHB xs h all 5 R := by kernel_rfl
theorem hb_6 (xs : List Int) (h : Hx) (all : Int) (R : RO → Prop) : (rHB (sHB xs h all 6)).run R = nHB xs h all 6 R := by kernel_rfl
theorem hb_7 (xs : List Int) (h : Hx) (all : Int) (R : RO → Prop) : (rHB (sHB xs h all 7)).run R = nHB xs h all 7 R := by kernel_rfl
theorem hb_8 (xs : List Int) (h : Hx) (all : Int) (R : RO → Prop) : (rHB (sHB xs h all 8)).run R = nHB xs h all 8 R := by kernel_rfl
theorem hb_9 (xs : List Int) (h : Hx) (all : Int) (R : RO → Prop) : (rHB (sHB xs h all 9)).run R = nHB xs h all 9 R := by kernel_rfl
theorem hb_10 (xs : List Int) (h : Hx) (all : Int) (R : RO → Prop) : (rHB (sHB xs h all 10)).run R = nHB xs h all 10 R := by kernel_rfl
theorem hb_11 (xs : List Int) (h : Hx) (all : Int) (R : RO → Prop) : (rHB (sHB xs h all 11)).run R = R (.done .normal (dHB xs h all)) := by kernel_rfl
theorem hb_k (xs : List Int) (h : Hx) (all : Int) (R : RO → Prop) : ∀ k < 11, (rHB (sHB xs h all (Int.ofNat k))).run R = nHB xs h all k R
  | 0, _ => hb_0 xs h all R
  | 1, _ => hb_1 xs h all R
  | 2, _ => hb_2 xs h all R
  | 3, _ => hb_3 xs h all R
  | 4, _ => hb_4 xs h all R
  | 5, _ => hb_5 xs h all R
  | 6, _ => hb_6 xs h all R
  | 7, _ => hb_7 xs h all R
  | 8, _ => hb_8 xs h all R
  | 9, _ => hb_9 xs h all R
  | 10, _ => hb_10 xs h all R
  | k + 11, hk => absurd hk (by omega)
def rdHB (s : St) : Option (List Int × Hx) := match s.fr[(1 : Nat)]?, s.rg[(0 : Nat)]? with
  | some (.v (.c (.l _ xs))), some (some { body := .cells [.i _ mg, .i _ pn, .i _ sb, .b c0, .b c1, .b c2, .b c3, .b c4, .b c5, .b c6, .b c7, .b c8, .b c9, .b c10, .i _ op], .. }) => some (xs, ⟨mg, pn, sb, c0, c1, c2, c3, c4, c5, c6, c7, c8, c9, c10, op⟩)
  | _, _ => none
noncomputable def lHB (s : St) : Tr (NExit × St) := match rdHB s with
  | some x => .must (s = sHB x.1 x.2 0 0) (.ret (.normal, dHB x.1 x.2 (alV x.2 11)))
  | none => .fail
structure AHB where
  xs : List Int
  h : Hx
  k : Nat
noncomputable def hHB (a : AHB) : St := sHB a.xs a.h (alV a.h a.k) (Int.ofNat a.k)
def preHB (a : AHB) (R : NExit × St → Prop) : Prop := a.k ≤ 11 ∧ R (.normal, dHB a.xs a.h (alV a.h 11))
def nxtHB (a : AHB) (R : NExit × St → Prop) (o : RO) : Prop := match o with
  | .next s => ∃ y, s = hHB y ∧ 11 - y.k < 11 - a.k ∧ preHB y R
  | .done e s => R (e, s)
theorem hb_in (a : AHB) (R : NExit × St → Prop) (h : preHB a R) : Box ((rHB (hHB a)).run (nxtHB a R)) := by
  obtain ⟨xs, h', k⟩ := a
  obtain ⟨h1, hR⟩ := h
  simp only at h1 hR
  by_cases hk : k < 11
  · refine Box.of_eq (hb_k xs h' _ _ k hk) ?_
    unfold nHB
    have e : alV h' (k + 1) = bif alB h' k then bits .or .i64 (alV h' k) (pw k) else alV h' k := rfl
    have nx : ∀ all, all = alV h' (k + 1) → nxtHB ⟨xs, h', k⟩ R (.next (sHB xs h' all (Int.ofNat (k + 1)))) := by
      rintro _ rfl
      exact ⟨⟨xs, h', k + 1⟩, rfl, by simp only; omega, by simp only [preHB]; exact ⟨by omega, hR⟩⟩
    cases hb : alB h' k with
    | true => exact sT rfl (nx _ (by rw [e, hb]; rfl))
    | false => exact sF rfl (nx _ (by rw [e, hb]; rfl))
  · have hk : k = 11 := by omega
    subst hk
    exact Box.of_eq (hb_11 xs h' _ _) hR
set_option maxRecDepth 100000 in
theorem loop_hb : LOk Tryz.prog GL 0 0 (bodyLoop f_hb 0) lHB := by
  refine loop_ok (X := X_hb) kc_hb mixed (LAll.none (by kernel_rfl)) [1, 2, 4, 5, 6, 7] [1, 2, 4, 5, 6] hHB (fun a => 11 - a.k) preHB ?_ ?_
  · intro s R h
    unfold lHB at h
    split at h
    case h_2 => exact h.elim
    rename_i x hx
    obtain ⟨hs, hR⟩ := h
    exact ⟨⟨x.1, x.2, 0⟩, hs, by simp only; omega, hR⟩
  · intro a R h
    exact Tr.run_mono _ (fun o ho => ho) (hb_in a R h).out
noncomputable def t_hb0 : Con := fun args regs => if regs.length = 0 then nfun Tryz.prog GL c_hb [(0, [1, 2, 4, 5, 6, 7], lHB)] f_hb args regs else .fail
theorem k_hb0 : Known Tryz.prog GL 38 t_hb0 := known_loops 0 Tryz.func38 rfl (by kernel_rfl) mixed kc_hb (LAll.one (id := 0) (body := bodyLoop f_hb 0) (by kernel_rfl) rfl loop_hb)
def e16 (x : Int) : Prop := 0 ≤ x ∧ x < 16
noncomputable def pl6 (pn sb b : Int) : List Int := [put (bits .and .i64 pn 15), put (shrv .i64 pn 4), put (bits .and .i64 sb 15), put (bits .or .i64 (bits .and .i64 (shrv .i64 sb 4) 7) (shlv .i64 (bits .and .i64 b 1) 3)), put (bits .and .i64 (shrv .i64 sb 8) 15), put (bits .or .i64 (bits .and .i64 (shrv .i64 sb 12) 3) (shlv .i64 (shrv .i64 b 1) 2))]
noncomputable def m6 (pn sb b : Int) (A : Prop) : Prop := e16 (bits .and .i64 pn 15) ∧ e16 (shrv .i64 pn 4) ∧ e16 (bits .and .i64 sb 15) ∧ e16 (bits .or .i64 (bits .and .i64 (shrv .i64 sb 4) 7) (shlv .i64 (bits .and .i64 b 1) 3)) ∧ e16 (bits .and .i64 (shrv .i64 sb 8) 15) ∧ e16 (bits .or .i64 (bits .and .i64 (shrv .i64 sb 12) 3) (shlv .i64 (shrv .i64 b 1) 2)) ∧ A
noncomputable def t8 (all : Int) : List Int := [put (bits .and .i64 (shrv .i64 all 3) 15), put (bits .and .i64 (shrv .i64 all 7) 15)]
noncomputable def hdD (h : Hx) (all : Int) (xs : List Int) : List Int := pl6 h.pn h.sb (bits .and .i64 all 7) ++ t8 all ++ xs
noncomputable def hdT (h : Hx) (all : Int) (xs : List Int) : List Int := List.take (8 + xs.length) (hdD h all xs)
noncomputable def adr (mg row : Int) : Int := bits .or .i64 (mg.tmod 8) (shlv .i64 (bits .and .i64 row 1) 3)
noncomputable def pkB (mg row : Int) (ds : List Int) : List Int := [put (adr mg row), put (shrv .i64 row 1)] ++ ds
noncomputable def oPr (x : NC) (e : Int) : Out := ⟨.tu [.c x, .c (.i .i64 e)], []⟩
def zz2 (n m : Nat) (A : Prop) : Prop := sel (decide ((n + m) * bytesT Tryz.prog 5 ≤ 140737488355328)) (sel (decide (n + m ≤ 9223372036854775807)) A False) False
noncomputable def hbI (h : Hx) (all : Int) (xs : List Int) (R : Out → Prop) : Prop :=
  m6 h.pn h.sb (bits .and .i64 all 7) (e16 (bits .and .i64 (shrv .i64 all 3) 15) ∧ (e16 (bits .and .i64 (shrv .i64 all 7) 15) ∧ zz2 8 xs.length (sel (decide (0 + (8 + xs.length) ≤ (hdD h all xs).length)) (
    e16 (adr h.mg 0) ∧ (e16 0 ∧ zz2 2 (hdT h all xs).length (2 + (hdT h all xs).length = (pkB h.mg 0 (hdT h all xs)).length ∧ R (oPr (.l .u8 (pkB h.mg 0 (hdT h all xs))) 0)))) False)))
noncomputable def hbT (h : Hx) (xs : List Int) (R : Out → Prop) : Prop :=
  sel (decide (h.mg ≥ 1)) (sel (decide (h.mg ≤ 8)) (sel (decide (h.pn ≥ 0)) (sel (decide (h.pn ≤ 255)) (sel (decide (h.sb ≥ 0)) (sel (!(bits .andNot .i64 h.sb 16255 == 0)) (R (oPr .sn 101)) (sel ((xs.length : Int) != 32) (R (oPr .sn 102))
    (sHB xs h 0 0 = sHB xs h 0 0 ∧ hbI h (alV h 11) xs R))) (R (oPr .sn 101))) (R (oPr .sn 101))) (R (oPr .sn 101))) (R (oPr .sn 101))) (R (oPr .sn 101))
noncomputable def t_hbC : Con := softT [] [0] [] [] 0 t_hb0
theorem k_hbC : Known Tryz.prog GL 38 t_hbC := k_hb0.soft [] [0] [] [] 0
theorem hbc_tree (h : Hx) (xs : List Int) (R : Out → Prop) : (t_hbC [.ag h.nc, .c (.l .u8 xs)] []).run R = hbT h xs R := by kernel_rfl
end Go.Proofs.YtdhhjgplnmpjcaaGreatDoor.bm
namespace Go.Proofs.YtdhhjgplnmpjcaaGreatDoor.bm
open Go.Proofs.YtdhhjgplnmpjcaaGreatDoor.sto (sT sF)
open Go.Proofs.YtdhhjgplnmpjcaaGreatDoor.pge (Hx)
open Go Go.Nx Go.Proofs.YtdhhjgplnmpjcaaGreatDoor.pk Go.Proofs.YtdhhjgplnmpjcaaGreatDoor.ln Go.Proofs.YtdhhjgplnmpjcaaGreatDoor.hd Go.Proofs.YtdhhjgplnmpjcaaGreatDoor.lb Go.Proofs.YtdhhjgplnmpjcaaGreatDoor.sv
def right (m p s : Int) : Prop := (1 ≤ m ∧ m ≤ 8) ∧ (0 ≤ p ∧ p ≤ 255) ∧ 0 ≤ s ∧ bits .andNot .i64 s 16255 = 0
theorem adr_all : ∀ g < 8, ∀ r < 32, 0 ≤ adr (Int.ofNat g + 1) (Int.ofNat r) ∧ adr (Int.ofNat g + 1) (Int.ofNat r) < 16 := by decide +kernel
theorem adr_in {m r : Int} (hm : 1 ≤ m ∧ m ≤ 8) (hr : 0 ≤ r ∧ r < 32) : e16 (adr m r) := by
  have := adr_all (m - 1).toNat (by omega) r.toNat (by omega)
  have e1 : Int.ofNat (m - 1).toNat + 1 = m := by show (((m - 1).toNat : Nat) : Int) + 1 = m; omega
  have e2 : Int.ofNat r.toNat = r := by show ((r.toNat : Nat) : Int) = r; omega
  rw [e1, e2] at this
  exact this
theorem m6_in {p s b : Int} {A : Prop} (hp : 0 ≤ p ∧ p ≤ 255) (hb : 0 ≤ b ∧ b < 8) (h : A) : m6 p s b A := by
  have c1 : e16 (aI p 15) := by rw [aI_15]; exact ⟨by omega, by omega⟩
  have c2 : e16 (shrv .i64 p 4) := by rw [sh_4]; exact ⟨by omega, by omega⟩
  have c3 : e16 (aI s 15) := by rw [aI_15]; exact ⟨by omega, by omega⟩
  have c4 : e16 (nb3 s (aI b 1)) := by rw [aI_1, nb3_eq _ _ (by omega)]; exact ⟨by omega, by omega⟩
  have c5 : e16 (nb4 s) := by rw [nb4_eq]; exact ⟨by omega, by omega⟩
  have c6 : e16 (nb5 s (shrv .i64 b 1)) := by rw [sh_1, nb5_eq _ _ (by omega)]; exact ⟨by omega, by omega⟩
  exact ⟨c1, c2, c3, c4, c5, c6, h⟩
theorem zz2_in {n m : Nat} {A : Prop} (h : n + m ≤ 10000) (hA : A) : zz2 n m A := by
  unfold zz2
  rw [bytesU]
  exact sT (decide_eq_true (by omega)) (sT (decide_eq_true (by omega)) hA)
theorem hdD_len (h : Hx) (all : Int) (xs : List Int) : (hdD h all xs).length = 8 + xs.length := by
  unfold hdD
  rw [List.length_append]
  rfl
theorem hdT_eq (h : Hx) (all : Int) (xs : List Int) : hdT h all xs = hdD h all xs := by
  unfold hdT
  rw [← hdD_len h all xs, List.take_length]
noncomputable def hbV (h : Hx) (xs : List Int) : List Int := pkB h.mg 0 (hdD h (alV h 11) xs)
attribute [local irreducible] zz2 in
theorem hbI_in {h : Hx} {all : Int} {xs : List Int} {R : Out → Prop} (hr : right h.mg h.pn h.sb) (hl : xs.length = 32) (hR : R (oPr (.l .u8 (pkB h.mg 0 (hdD h all xs))) 0)) : hbI h all xs R := by
  have ha : 0 ≤ bits .and .i64 all 7 ∧ bits .and .i64 all 7 < 8 := by
    have e : bits .and .i64 all 7 = all % 8 := and_mask64 all 3 (by decide)
    rw [e]
    omega
  have k3 : e16 (bits .and .i64 (shrv .i64 all 3) 15) := by
    have e : bits .and .i64 (shrv .i64 all 3) 15 = (shrv .i64 all 3) % 16 := and_mask64 _ 4 (by decide)
    rw [e]
    exact ⟨by omega, by omega⟩
  have k7 : e16 (bits .and .i64 (shrv .i64 all 7) 15) := by
    have e : bits .and .i64 (shrv .i64 all 7) 15 = (shrv .i64 all 7) % 16 := and_mask64 _ 4 (by decide)
    rw [e]
    exact ⟨by omega, by omega⟩
  have hd := hdD_len h all xs
  have hp : (pkB h.mg 0 (hdD h all xs)).length = 2 + (hdD h all xs).length := by unfold pkB; rw [List.length_append]; rfl
  have h40 : 8 + xs.length ≤ 10000 := by omega
  have h41 : 0 + (8 + xs.length) ≤ (hdD h all xs).length := by omega
  have h42 : 2 + (hdD h all xs).length ≤ 10000 := by omega
  have h43 : e16 (adr h.mg 0) := adr_in hr.1 ⟨by decide, by decide⟩
  have h44 : e16 0 := ⟨by decide, by decide⟩
  unfold hbI
  rw [hdT_eq]
  refine m6_in hr.2.1 ha (And.intro k3 (And.intro k7 ?_))
  refine zz2_in (n := 8) (m := xs.length) h40 ?_
  refine sT (decide_eq_true h41) (And.intro h43 (And.intro h44 ?_))
  exact zz2_in (n := 2) (m := (hdD h all xs).length) h42 (And.intro hp.symm hR)
noncomputable def tHB : Con := fun args regs => match args, regs with
  | [.ag [.i _ mg, .i _ pn, .i _ sb, .b c0, .b c1, .b c2, .b c3, .b c4, .b c5, .b c6, .b c7, .b c8, .b c9, .b c10, .i _ op], .c (.l _ xs)], [] =>
    .must (args = [.ag (Hx.nc ⟨mg, pn, sb, c0, c1, c2, c3, c4, c5, c6, c7, c8, c9, c10, op⟩), .c (.l .u8 xs)] ∧ right mg pn sb ∧ xs.length = 32) (.ret (oPr (.l .u8 (hbV ⟨mg, pn, sb, c0, c1, c2, c3, c4, c5, c6, c7, c8, c9, c10, op⟩ xs)) 0))
  | _, _ => .fail
attribute [local irreducible] t_hbC in
set_option maxRecDepth 100000 in
theorem kHB : Known Tryz.prog GL 38 tHB := by
  refine k_hbC.less fun args regs R h => ?_
  unfold tHB at h
  split at h
  case h_2 => exact h.elim
  rename_i _ mg _ pn _ sb c0 c1 c2 c3 c4 c5 c6 c7 c8 c9 c10 _ op _ xs
  obtain ⟨⟨h1, hr, hl⟩, h⟩ := h
  rw [h1]
  refine (Box.of_eq (hbc_tree ⟨mg, pn, sb, c0, c1, c2, c3, c4, c5, c6, c7, c8, c9, c10, op⟩ xs R) ?_).out
  unfold hbT
  exact sT (decide_eq_true hr.1.1) (sT (decide_eq_true hr.1.2) (sT (decide_eq_true hr.2.1.1) (sT (decide_eq_true hr.2.1.2) (sT (decide_eq_true hr.2.2.1) (sF (by rw [Bool.not_eq_false', beq_iff_eq]; exact hr.2.2.2) (sF (by rw [bne_eq_false_iff_eq]; omega) ⟨rfl, hbI_in hr hl h⟩))))))
def pgs8 : List Int := [0, 1, 2, 35, 153, 255, 26, 16]
def sub4 : List Int := [0, 1, 2, 16255]
def plP (b : Int) : Int := pgs8.getD (b % 8).toNat 0
def plS (c : Int) : Int := sub4.getD (c % 4).toNat 0
def i83 (n : Int) (l : Nat) (A : Prop) : Prop := sel (decide (0 ≤ n)) (sel (decide (n < (l : Int))) (sel (decide (0 + n.toNat < l)) A False) False) False
theorem pl_tree (a b c : Int) (R : Out → Prop) : (t_pl0 [.c (.i .i64 a), .c (.i .i64 b), .c (.i .i64 c)] []).run R =
    (((0 : Int) < 3 ∧ (3 : Int) < 4611686018427387904) ∧ (((0 : Int) < 8 ∧ (8 : Int) < 4611686018427387904) ∧ i83 (b % 8) 8 (((0 : Int) < 4 ∧ (4 : Int) < 4611686018427387904) ∧ i83 (c % 4) 4
      (R ⟨.v (.ag [.i .i64 (IntKind.i64.wrap (a % 3 + 1)), .i .i64 (pgs8.getD (0 + (b % 8).toNat) 0), .i .i64 (sub4.getD (0 + (c % 4).toNat) 0)]), []⟩)))) := by kernel_rfl
noncomputable def oPl (a b c : Int) : Out := ⟨.v (.ag [.i .i64 (a % 3 + 1), .i .i64 (plP b), .i .i64 (plS c)]), []⟩
noncomputable def tPl : Con := fun args regs => match args, regs with
  | [.c (.i _ a), .c (.i _ b), .c (.i _ c)], [] => .must (args = [.c (.i .i64 a), .c (.i .i64 b), .c (.i .i64 c)]) (.ret (oPl a b c))
  | _, _ => .fail
theorem i83_in {n : Int} {l : Nat} {A : Prop} (h : 0 ≤ n ∧ n < (l : Int)) (hA : A) : i83 n l A := sT (decide_eq_true h.1) (sT (decide_eq_true h.2) (sT (decide_eq_true (by omega)) hA))
attribute [local irreducible] t_pl0 in
set_option maxRecDepth 100000 in
theorem kPl : Known Tryz.prog GL 21 tPl := by
  refine k_pl0.less fun args regs R h => ?_
  unfold tPl at h
  split at h
  case h_2 => exact h.elim
  rename_i _ a _ b _ c
  obtain ⟨h1, h⟩ := h
  rw [h1]
  refine (Box.of_eq (pl_tree a b c R) ⟨⟨by decide, by decide⟩, ⟨by decide, by decide⟩, i83_in ⟨by omega, by show b % 8 < 8; omega⟩ ⟨⟨by decide, by decide⟩, i83_in ⟨by omega, by show c % 4 < 4; omega⟩ ?_⟩⟩).out
  have hw : IntKind.i64.wrap (a % 3 + 1) = a % 3 + 1 := by rw [IntKind.wrap_i64]; omega
  rw [hw, Nat.zero_add, Nat.zero_add]
  exact h
theorem plP_in (b : Int) : 0 ≤ plP b ∧ plP b ≤ 255 := by
  have key : ∀ n < 8, 0 ≤ pgs8.getD n 0 ∧ pgs8.getD n 0 ≤ 255 := by decide
  exact key _ (by omega)
theorem pl_right (a b c : Int) : right (a % 3 + 1) (plP b) (plS c) := by
  have key : ∀ n < 4, 0 ≤ sub4.getD n 0 ∧ bits .andNot .i64 (sub4.getD n 0) 16255 = 0 := by decide +kernel
  have h := key (c % 4).toNat (by omega)
  exact ⟨⟨by omega, by omega⟩, plP_in b, h.1, h.2⟩
end Go.Proofs.YtdhhjgplnmpjcaaGreatDoor.bm
namespace Go.Proofs.YtdhhjgplnmpjcaaGreatDoor.bm
open Go.Proofs.YtdhhjgplnmpjcaaGreatDoor.sto (sT sF)
open Go.Proofs.YtdhhjgplnmpjcaaGreatDoor.pge (Hx)
open Go Go.Nx Go.Proofs.YtdhhjgplnmpjcaaGreatDoor.pk Go.Proofs.YtdhhjgplnmpjcaaGreatDoor.ln Go.Proofs.YtdhhjgplnmpjcaaGreatDoor.hd Go.Proofs.YtdhhjgplnmpjcaaGreatDoor.lb Go.Proofs.YtdhhjgplnmpjcaaGreatDoor.sv
noncomputable abbrev f_by := Tryz.f13
noncomputable def t_tof : Con := fun args regs => nfun Tryz.prog GL (fun _ => Option.none) [] Tryz.f41 args regs
theorem k_tof : Known Tryz.prog GL 41 t_tof := known_inl Tryz.func41 rfl (by kernel_rfl) mixed con_none (by kernel_rfl)
noncomputable def c_by : FuncId → Option Con := conOf [(9, num.tNumV), (21, tPl), (39, tOddB), (38, tHB), (40, t_rpkd), (41, t_tof), (42, ts.tRTBg)]
theorem kc_by : ∀ f T, c_by f = some T → Known Tryz.prog GL f T := (Knowns.cons (known_gl num.kNumV) (.cons kPl (.cons kOddB (.cons kHB (.cons k_rpkd (.cons k_tof (.cons ts.kRTBg .nil))))))).get
noncomputable def X_by : Cx := { P := Tryz.prog, con := c_by, glob := GL, m := 0, loops := [] }
noncomputable def lp1 : St → Tr (NExit × St) := unroll X_by 1 [1, 2, 3, 4, 5, 6] [1, 2, 3, 4, 5] (bodyLoop f_by 1) 12
noncomputable def t_by : Con := fun args regs => if regs.length = 0 then nfun Tryz.prog GL c_by [(1, [1, 2, 3, 4, 5, 6], lp1)] f_by args regs else .fail
theorem by_loops : (loopsIn (f_by.body.getD .skip)).filter (fun p => p.1 == 1) = [(1, bodyLoop f_by 1)] := by kernel_rfl
theorem by_ranges : rangesIn (f_by.body.getD .skip) = [] := by kernel_rfl
theorem k_by : Known Tryz.prog GL 13 t_by := by
  refine known_loops (c := f_by.body.getD .skip) 0 Tryz.func13 (by kernel_rfl) (by kernel_rfl) mixed kc_by ⟨fun i b hb x hf => ?_, fun i b hb x hf => ?_⟩
  · have hx : x = (1, [1, 2, 3, 4, 5, 6], lp1) := by
      have := List.mem_of_find?_eq_some hf
      simpa using this
    have hi : i = 1 := by
      have := List.find?_some hf
      rw [hx] at this
      exact (eq_of_beq this).symm
    have hm : (i, b) ∈ (loopsIn (f_by.body.getD .skip)).filter (fun p => p.1 == 1) := List.mem_filter.2 ⟨hb, by rw [hi]; rfl⟩
    rw [by_loops, List.mem_singleton] at hm
    cases hm
    rw [hx]
    exact unroll_ok (X := X_by) kc_by mixed (LAll.none (by kernel_rfl)) [1, 2, 3, 4, 5, 6] [1, 2, 3, 4, 5] 12
  · rw [by_ranges] at hb
    cases hb
noncomputable def t_byC : Con := softT [] [0] [(0, 0, 0, .l .u8 [])] [] 0 t_by
theorem k_byC : Known Tryz.prog GL 13 t_byC := k_by.soft [] [0] [(0, 0, 0, .l .u8 [])] [] 0
structure Dv where
  k : Int
  mag : Int
  pg : Int
  sb : Int
  n : Int
  L : List Int
  T : List Int
  W : List Int
  B : List Int
def Dv.nv (d : Dv) : NV := .ag [.i .i64 d.k, .i .i64 d.mag, .i .i64 d.pg, .i .i64 d.sb, .i .i64 d.n, .l .i64 d.L, .l .u8 d.T, .l .u8 d.W, .l .i64 d.B]
noncomputable def cbit (n : Int) (k : Nat) : Bool := bits .and .i64 (shrv .i64 n (Int.ofNat k)) 1 == 1
noncomputable def hxOf (d : Dv) : Hx := ⟨d.mag % 3 + 1, plP d.pg, plS d.sb, cbit d.n 0, cbit d.n 1, cbit d.n 2, cbit d.n 3, cbit d.n 4, cbit d.n 5, cbit d.n 6, cbit d.n 7, cbit d.n 8, cbit d.n 9, cbit d.n 10, 0⟩
def plA (d : Dv) : Prop := [NV.c (.i .i64 d.mag), .c (.i .i64 d.pg), .c (.i .i64 d.sb)] = [NV.c (.i .i64 d.mag), .c (.i .i64 d.pg), .c (.i .i64 d.sb)]
def nmA (m : Int) : Prop := 0 < m ∧ m < 4611686018427387904
def odA (T : List Int) (n : Int) : Prop := [NV.c (.l .u8 T), .c (.i .i64 n)] = [NV.c (.l .u8 T), .c (.i .i64 n)] ∧ 0 < n ∧ n ≤ 100
theorem by_1 (mag pg sb n : Int) (L T W B : List Int) (R : Out → Prop) : (t_byC [Dv.nv ⟨1, mag, pg, sb, n, L, T, W, B⟩] []).run R =
    (plA ⟨1, mag, pg, sb, n, L, T, W, B⟩ ∧ (odA T 32 ∧ (([NV.ag (hxOf ⟨1, mag, pg, sb, n, L, T, W, B⟩).nc, .c (.l .u8 (odV T 32))] = [NV.ag (hxOf ⟨1, mag, pg, sb, n, L, T, W, B⟩).nc, .c (.l .u8 (odV T 32))] ∧ right (mag % 3 + 1) (plP pg) (plS sb) ∧ (odV T 32).length = 32) ∧ R (oLu (hbV (hxOf ⟨1, mag, pg, sb, n, L, T, W, B⟩) (odV T 32)))))) := by kernel_rfl
theorem by_2 (mag pg sb n : Int) (L T W B : List Int) (R : Out → Prop) : (t_byC [Dv.nv ⟨2, mag, pg, sb, n, L, T, W, B⟩] []).run R =
    (plA ⟨2, mag, pg, sb, n, L, T, W, B⟩ ∧ (nmA 25 ∧ (odA T 40 ∧ (e16 (adr (mag % 3 + 1) (n % 25)) ∧ (e16 (shrv .i64 (n % 25) 1) ∧ (42 = 42 ∧ R (oLu (pkB (mag % 3 + 1) (n % 25) (odV T 40))))))))) := by kernel_rfl
noncomputable def opt (n sb : Int) : Int := bits .or .i64 (shlv .i64 (n % 16) 10) (IntKind.i64.wrap ((sb % 5).tdiv 4))
noncomputable def trR (v : Int) : List Sc := [.i (bits .and .i64 v 63), .i (bits .and .i64 (shrv .i64 v 6) 31), .i (bits .and .i64 (shrv .i64 v 11) 127)]
noncomputable def trO (n sb : Int) : List (List Sc) := trR (opt n sb) :: List.replicate 12 [.i 0, .i 0, .i 0]
noncomputable def cdO (pg : Int) : Int := IntKind.i64.wrap (IntKind.i64.wrap ((pg % 3).tdiv 2) * 3)
noncomputable def trB (mg row cd : Int) (rows : List (List Sc)) : List Int := adr0 mg row :: adr1 row :: ts.LTg cd rows
theorem by_5 (mag pg sb n : Int) (L T W B : List Int) (R : Out → Prop) : (t_byC [Dv.nv ⟨5, mag, pg, sb, n, L, T, W, B⟩] []).run R =
    (plA ⟨5, mag, pg, sb, n, L, T, W, B⟩ ∧ (nmA 16 ∧ (nmA 5 ∧ (nmA 3 ∧ sel (ts.okTB (mag % 3 + 1) 28 (cdO pg)) (42 = 42 ∧ R (oLu (trB (mag % 3 + 1) 28 (cdO pg) (trO n sb)))) (R (oLu [])))))) := by kernel_rfl
theorem by_6 (mag pg sb n : Int) (L T W B : List Int) (R : Out → Prop) : (t_byC [Dv.nv ⟨6, mag, pg, sb, n, L, T, W, B⟩] []).run R =
    (plA ⟨6, mag, pg, sb, n, L, T, W, B⟩ ∧ (nmA 16 ∧ (nmA 5 ∧ (nmA 3 ∧ sel (ts.okTB (mag % 3 + 1) 29 (cdO pg)) (42 = 42 ∧ R (oLu (trB (mag % 3 + 1) 29 (cdO pg) (trO n sb)))) (R (oLu [])))))) := by kernel_rfl
end Go.Proofs.YtdhhjgplnmpjcaaGreatDoor.bm
namespace Go.Proofs.YtdhhjgplnmpjcaaGreatDoor.bm
open Go.Proofs.YtdhhjgplnmpjcaaGreatDoor.sto (sT sF)
open Go.Proofs.YtdhhjgplnmpjcaaGreatDoor.pge (Hx)
open Go Go.Nx Go.Proofs.YtdhhjgplnmpjcaaGreatDoor.pk Go.Proofs.YtdhhjgplnmpjcaaGreatDoor.ln Go.Proofs.YtdhhjgplnmpjcaaGreatDoor.hd Go.Proofs.YtdhhjgplnmpjcaaGreatDoor.lb Go.Proofs.YtdhhjgplnmpjcaaGreatDoor.sv
noncomputable def byV (d : Dv) : List Int :=
  bif d.k == 1 then hbV (hxOf d) (odV d.T 32) else bif d.k == 2 then pkB (d.mag % 3 + 1) (d.n % 25) (odV d.T 40)
  else bif d.k == 5 then trB (d.mag % 3 + 1) 28 (cdO d.pg) (trO d.n d.sb) else trB (d.mag % 3 + 1) 29 (cdO d.pg) (trO d.n d.sb)
def okD (d : Dv) : Prop := d.k = 1 ∨ d.k = 2 ∨ d.k = 5 ∨ d.k = 6
theorem cdO_in (pg : Int) : 0 ≤ cdO pg ∧ cdO pg ≤ 3 := by
  have key : ∀ n < 3, 0 ≤ IntKind.i64.wrap (IntKind.i64.wrap ((Int.ofNat n).tdiv 2) * 3) ∧ IntKind.i64.wrap (IntKind.i64.wrap ((Int.ofNat n).tdiv 2) * 3) ≤ 3 := by decide +kernel
  have h := key (pg % 3).toNat (by omega)
  have e : Int.ofNat (pg % 3).toNat = pg % 3 := by show (((pg % 3).toNat : Nat) : Int) = pg % 3; omega
  rw [e] at h
  exact h
theorem okTB_of {mg row cd : Int} (hm : 1 ≤ mg ∧ mg ≤ 8) (hc : 0 ≤ cd ∧ cd ≤ 3) (hr : row = 28 ∨ row = 29 ∨ row = 26) : ts.okTB mg row cd = true := by
  unfold ts.okTB
  rw [decide_eq_true (show 1 ≤ mg ∧ mg ≤ 8 ∧ 0 ≤ cd ∧ cd ≤ 15 from ⟨hm.1, hm.2, hc.1, by omega⟩)]
  rcases hr with rfl | rfl | rfl <;> rfl
noncomputable def tBy : Con := fun args regs => match args, regs with
  | [.ag [.i _ k, .i _ mag, .i _ pg, .i _ sb, .i _ n, .l _ L, .l _ T, .l _ W, .l _ B]], [] => .must (args = [Dv.nv ⟨k, mag, pg, sb, n, L, T, W, B⟩] ∧ okD ⟨k, mag, pg, sb, n, L, T, W, B⟩) (.ret (oLu (byV ⟨k, mag, pg, sb, n, L, T, W, B⟩)))
  | _, _ => .fail
attribute [local irreducible] t_byC in
set_option maxRecDepth 100000 in
theorem kBy : Known Tryz.prog GL 13 tBy := by
  refine k_byC.less fun args regs R h => ?_
  unfold tBy at h
  split at h
  case h_2 => exact h.elim
  rename_i _ k _ mag _ pg _ sb _ n _ L _ T _ W _ B
  obtain ⟨⟨h1, hk⟩, h⟩ := h
  rw [h1]
  have hm : 1 ≤ mag % 3 + 1 ∧ mag % 3 + 1 ≤ 8 := ⟨by omega, by omega⟩
  have n16 : nmA 16 := ⟨by decide, by decide⟩
  have n5 : nmA 5 := ⟨by decide, by decide⟩
  have n3 : nmA 3 := ⟨by decide, by decide⟩
  have n25 : nmA 25 := ⟨by decide, by decide⟩
  have hk' : k = 1 ∨ k = 2 ∨ k = 5 ∨ k = 6 := hk
  rcases hk' with rfl | rfl | rfl | rfl
  · exact (Box.of_eq (by_1 mag pg sb n L T W B R) ⟨rfl, ⟨rfl, by decide, by decide⟩, ⟨rfl, pl_right mag pg sb, odV_len _ _⟩, h⟩).out
  · have e1 : e16 (adr (mag % 3 + 1) (n % 25)) := adr_in hm ⟨by omega, by omega⟩
    have e2 : e16 (shrv .i64 (n % 25) 1) := by rw [sh_1]; exact ⟨by omega, by omega⟩
    exact (Box.of_eq (by_2 mag pg sb n L T W B R) ⟨rfl, n25, ⟨rfl, by decide, by decide⟩, e1, e2, rfl, h⟩).out
  · exact (Box.of_eq (by_5 mag pg sb n L T W B R) ⟨rfl, n16, n5, n3, sT (okTB_of hm (cdO_in pg) (.inl rfl)) ⟨rfl, h⟩⟩).out
  · exact (Box.of_eq (by_6 mag pg sb n L T W B R) ⟨rfl, n16, n5, n3, sT (okTB_of hm (cdO_in pg) (.inr (.inl rfl))) ⟨rfl, h⟩⟩).out
def Dv.fc (d : Dv) : List FC := [.i d.k, .i d.mag, .i d.pg, .i d.sb, .i d.n, .is d.L, .is d.T, .is d.W, .is d.B]
def dvSch : List Part := [.i .i64, .i .i64, .i .i64, .i .i64, .i .i64, .l .i64, .l .u8, .l .u8, .l .i64]
noncomputable def dvReg (l : List Dv) : Reg := ⟨9, 36, .tab dvSch (l.map Dv.fc)⟩
def ofFc (r : List FC) : Dv := ⟨(r.getD 0 (.i 0)).n, (r.getD 1 (.i 0)).n, (r.getD 2 (.i 0)).n, (r.getD 3 (.i 0)).n, (r.getD 4 (.i 0)).n, (r.getD 5 (.i 0)).li, (r.getD 6 (.i 0)).li, (r.getD 7 (.i 0)).li, (r.getD 8 (.i 0)).li⟩
end Go.Proofs.YtdhhjgplnmpjcaaGreatDoor.bm
namespace Go.Proofs.YtdhhjgplnmpjcaaGreatDoor.df
open Go.Proofs.YtdhhjgplnmpjcaaGreatDoor.sto (sT sF)
open Go Go.Nx Go.Proofs.YtdhhjgplnmpjcaaGreatDoor.pk Go.Proofs.YtdhhjgplnmpjcaaGreatDoor.mac Go.Proofs.YtdhhjgplnmpjcaaGreatDoor.bm
noncomputable abbrev f_df := Tryz.f5
noncomputable def c_df : FuncId → Option Con := conOf [(8, tF14), (9, num.tNumV), (11, tNewM), (13, tBy), (12, tPkN), (21, tPl), (19, tFd)]
theorem kc_df : ∀ f T, c_df f = some T → Known Tryz.prog GL f T := (Knowns.cons kF14 (.cons (known_gl num.kNumV) (.cons kNewM (.cons kBy (.cons kPkN (.cons kPl (.cons kFd .nil))))))).get
noncomputable def X_df : Cx := { P := Tryz.prog, con := c_df, glob := GL, m := 0, loops := [] }
noncomputable def sDf (r o : Int) (p a : Bool) (M : Mc) (l : List Dv) (i : Int) : St := { fr := frame 106 [(0, .v (.c (.i .i64 r))), (1, .v (.c (.i .i64 o))), (2, .v (.c (.b p))), (3, .v (.c (.b a))), (9, .v (.c (.b true))), (10, .v (.c (.p 0 0 0))), (13, .v (.c (.h 4 0 l.length))), (14, .v (.c (.i .i64 i)))], rg := (inM M).map some ++ [some (dvReg l)] }
noncomputable def dDf (r o : Int) (p a : Bool) (M : Mc) : St := { fr := frame 106 [(0, .v (.c (.i .i64 r))), (1, .v (.c (.i .i64 o))), (2, .v (.c (.b p))), (3, .v (.c (.b a))), (9, .v (.c (.b true))), (10, .v (.c (.p 0 0 0)))], rg := (inM M).map some }
def B8 (b : Int) : Prop := 0 ≤ b ∧ b < 256
theorem put_in (n : Int) : B8 (put n) := by
  have key : ∀ m < 16, 0 ≤ putL.getD m 0 ∧ putL.getD m 0 < 256 := by decide +kernel
  exact key (n % 16).toNat (by omega)
theorem u8_in (v : BitVec 8) : B8 (u8 v) := by
  have := v.isLt
  unfold B8 u8
  omega
theorem odV_in (T : List Int) (k : Nat) : ∀ b ∈ odV T k, B8 b := by
  intro b hb
  unfold odV at hb
  obtain ⟨i, -, rfl⟩ := List.mem_map.1 hb
  exact sv.mkO_in _
theorem app_in {l m : List Int} (h1 : ∀ b ∈ l, B8 b) (h2 : ∀ b ∈ m, B8 b) : ∀ b ∈ l ++ m, B8 b := fun b hb => (List.mem_append.1 hb).elim (h1 b) (h2 b)
theorem pkB_in {mg row : Int} {ds : List Int} (h : ∀ b ∈ ds, B8 b) : ∀ b ∈ pkB mg row ds, B8 b := List.forall_mem_cons.2 ⟨put_in _, List.forall_mem_cons.2 ⟨put_in _, h⟩⟩
theorem hbV_in (h : pge.Hx) {xs : List Int} (hx : ∀ b ∈ xs, B8 b) : ∀ b ∈ hbV h xs, B8 b := by
  refine pkB_in (app_in (app_in ?_ ?_) hx)
  · unfold pl6
    repeat (refine List.forall_mem_cons.2 ⟨put_in _, ?_⟩)
    intro b hb; cases hb
  · unfold t8
    repeat (refine List.forall_mem_cons.2 ⟨put_in _, ?_⟩)
    intro b hb; cases hb
theorem tw_in (r : List Sc) : ∀ b ∈ tr.tw r, B8 b := by
  unfold tr.tw
  repeat (refine List.forall_mem_cons.2 ⟨u8_in _, ?_⟩)
  intro b hb; cases hb
theorem trB_in (mg row cd : Int) (rows : List (List Sc)) : ∀ b ∈ trB mg row cd rows, B8 b := by
  refine List.forall_mem_cons.2 ⟨put_in _, List.forall_mem_cons.2 ⟨put_in _, ?_⟩⟩
  unfold ts.LTg tr.LT
  refine List.forall_mem_cons.2 ⟨put_in _, ?_⟩
  iterate 12 (refine app_in (tw_in _) ?_)
  exact tw_in _
theorem byV_in (d : Dv) : ∀ b ∈ byV d, B8 b := by
  unfold byV
  cases d.k == 1 with
  | true => exact hbV_in _ (odV_in _ _)
  | false =>
    cases d.k == 2 with
    | true => exact pkB_in (odV_in _ _)
    | false =>
      cases d.k == 5 with
      | true => exact trB_in _ _ _ _
      | false => exact trB_in _ _ _ _
def okRun (M : Mc) : List Dv → Prop
  | [] => True
  | d :: l => okD d ∧ (M.step (byV d)).2 = none ∧ okRun (M.step (byV d)).1 l
noncomputable def runP (M : Mc) (l : List Dv) : Mc := l.foldl (fun M d => (M.step (byV d)).1) M
def rwD (l : List Dv) (i : Int) : Dv := ofFc ((l.map Dv.fc).getD (0 + i.toNat) [])
noncomputable def inDf (r o : Int) (p a : Bool) (M : Mc) (l : List Dv) (i : Int) (R : RO → Prop) : Prop :=
  sel (decide (i < (l.length : Int))) (sel (decide (0 ≤ i)) (sel (decide (i < (l.length : Int))) (sel (decide (0 + i.toNat < (l.map Dv.fc).length)) (
    ([(rwD l i).nv] = [(rwD l i).nv] ∧ okD (rwD l i)) ∧ ((inM M = inM (bk M) ∧ (bk M).ok) ∧ (([NV.c (.p 0 0 0), .c (.l .u8 (byV (rwD l i)))] = [NV.c (.p 0 0 0), .c (.l .u8 (byV (rwD l i)))] ∧ (bk M).good ∧ (∀ b ∈ byV (rwD l i), 0 ≤ b ∧ b < 256) ∧ ((bk M).step (byV (rwD l i))).2 = none) ∧
      R (.next (sDf r o p a ((bk M).step (byV (rwD l i))).1 l (IntKind.i64.wrap (i + 1))))))) False) False) False) (R (.done .normal (dDf r o p a M)))
structure ADf where
  M : Mc
  i : Int
def preDf (r o : Int) (p a : Bool) (l : List Dv) (x : ADf) (R : NExit × St → Prop) : Prop := (0 ≤ x.i ∧ x.i ≤ (l.length : Int)) ∧ l.length ≤ 1000 ∧ x.M.good ∧ okRun x.M (l.drop x.i.toNat) ∧ R (.normal, dDf r o p a (runP x.M (l.drop x.i.toNat)))
def nxtDf (r o : Int) (p a : Bool) (l : List Dv) (x : ADf) (R : NExit × St → Prop) (q : RO) : Prop := match q with
  | .next s => ∃ y : ADf, s = sDf r o p a y.M l y.i ∧ ((l.length : Int) - y.i).toNat < ((l.length : Int) - x.i).toNat ∧ preDf r o p a l y R
  | .done e s => R (e, s)
theorem rwD_eq {l : List Dv} {i : Int} (h : i.toNat < l.length) : rwD l i = l[i.toNat] := by
  unfold rwD
  rw [Nat.zero_add, List.getD_eq_getElem?_getD, List.getElem?_map, List.getElem?_eq_getElem h]
  rfl
theorem df_in (r o : Int) (p a : Bool) (l : List Dv) (x : ADf) (R : NExit × St → Prop) (h : preDf r o p a l x R) : inDf r o p a x.M l x.i (nxtDf r o p a l x R) := by
  obtain ⟨M, i⟩ := x
  obtain ⟨⟨h0, hle⟩, hL, hg, hok, hR⟩ := h
  simp only at h0 hle hg hok hR
  unfold inDf
  rw [hg.bk]
  by_cases hlt : i < (l.length : Int)
  · have hj : i.toNat < l.length := by omega
    have hw : IntKind.i64.wrap (i + 1) = i + 1 := by rw [IntKind.wrap_i64]; omega
    have ht : (i + 1).toNat = i.toNat + 1 := by omega
    rw [rwD_eq hj, hw]
    rw [List.drop_eq_getElem_cons hj] at hok hR
    obtain ⟨k1, k2, k3⟩ := hok
    have hb := byV_in l[i.toNat]
    refine sT (decide_eq_true hlt) (sT (decide_eq_true h0) (sT (decide_eq_true hlt) (sT (decide_eq_true (by rw [Nat.zero_add, List.length_map]; exact hj)) ⟨⟨rfl, k1⟩, ⟨rfl, hg.ok⟩, ⟨rfl, hg, hb, k2⟩, ?_⟩)))
    exact ⟨⟨(M.step (byV l[i.toNat])).1, i + 1⟩, rfl, by simp only; omega, ⟨by simp only; omega, by simp only; omega⟩, hL, step_good hg hb, by simp only; rw [ht]; exact k3, by simp only; rw [ht]; exact hR⟩
  · refine sF (decide_eq_false hlt) ?_
    rw [List.drop_eq_nil_iff.2 (by omega)] at hR
    exact hR
end Go.Proofs.YtdhhjgplnmpjcaaGreatDoor.df
namespace Go.Proofs.YtdhhjgplnmpjcaaGreatDoor.pl
open Go.Proofs.YtdhhjgplnmpjcaaGreatDoor.sto (sT sF Ky)
open Go.Proofs.YtdhhjgplnmpjcaaGreatDoor.ac (Pg)
open Go Go.Nx Go.Proofs.YtdhhjgplnmpjcaaGreatDoor.pk Go.Proofs.YtdhhjgplnmpjcaaGreatDoor.mac Go.Proofs.YtdhhjgplnmpjcaaGreatDoor.bm Go.Proofs.YtdhhjgplnmpjcaaGreatDoor.df
noncomputable abbrev f_pl := Tryz.f6
noncomputable def c_pl : FuncId → Option Con := conOf [(8, tF14), (9, num.tNumV), (11, tNewM), (13, tBy), (12, tPkN), (21, tPl), (19, tFd), (23, tOp), (22, hd.tSamePT)]
theorem kc_pl : ∀ f T, c_pl f = some T → Known Tryz.prog GL f T := (Knowns.cons kF14 (.cons (known_gl num.kNumV) (.cons kNewM (.cons kBy (.cons kPkN (.cons kPl (.cons kFd (.cons kOp (.cons hd.kSamePT .nil))))))))).get
noncomputable def X_pl : Cx := { P := Tryz.prog, con := c_pl, glob := GL, m := 0, loops := [] }
noncomputable def sPl (a b : Int) (sr : Bool) (T : List Int) (M : Mc) (l : List Dv) (i : Int) : St := { fr := frame 142 [(0, .v (.c (.i .i64 a))), (1, .v (.c (.i .i64 b))), (2, .v (.c (.b sr))), (3, .v (.c (.l .u8 T))), (9, .v (.c (.b true))), (10, .v (.c (.p 0 0 0))), (13, .v (.c (.h 4 0 l.length))), (14, .v (.c (.i .i64 i)))], rg := (inM M).map some ++ [some (dvReg l)] }
noncomputable def dPl (a b : Int) (sr : Bool) (M : Mc) : St := { fr := frame 142 [(0, .v (.c (.i .i64 a))), (1, .v (.c (.i .i64 b))), (2, .v (.c (.b sr))), (9, .v (.c (.b true))), (10, .v (.c (.p 0 0 0)))], rg := (inM M).map some }
noncomputable def rPl (s : St) : Tr RO := roundT X_pl 0 [0, 1, 2, 3, 9, 10, 13, 14] [0, 1, 2, 9, 10] (bodyLoop f_pl 0) s
noncomputable def inL (s : Mc → Int → St) (d : Mc → St) (M : Mc) (l : List Dv) (i : Int) (R : RO → Prop) : Prop :=
  sel (decide (i < (l.length : Int))) (sel (decide (0 ≤ i)) (sel (decide (i < (l.length : Int))) (sel (decide (0 + i.toNat < (l.map Dv.fc).length)) (
    ([(rwD l i).nv] = [(rwD l i).nv] ∧ okD (rwD l i)) ∧ ((inM M = inM (bk M) ∧ (bk M).ok) ∧ (([NV.c (.p 0 0 0), .c (.l .u8 (byV (rwD l i)))] = [NV.c (.p 0 0 0), .c (.l .u8 (byV (rwD l i)))] ∧ (bk M).good ∧ (∀ b ∈ byV (rwD l i), 0 ≤ b ∧ b < 256) ∧ ((bk M).step (byV (rwD l i))).2 = none) ∧
      R (.next (s ((bk M).step (byV (rwD l i))).1 (IntKind.i64.wrap (i + 1))))))) False) False) False) (R (.done .normal (d M)))
def preL (d : Mc → St) (l : List Dv) (x : ADf) (R : NExit × St → Prop) : Prop := (0 ≤ x.i ∧ x.i ≤ (l.length : Int)) ∧ l.length ≤ 1000 ∧ x.M.good ∧ okRun x.M (l.drop x.i.toNat) ∧ R (.normal, d (runP x.M (l.drop x.i.toNat)))
def nxtL (s : Mc → Int → St) (d : Mc → St) (l : List Dv) (x : ADf) (R : NExit × St → Prop) (q : RO) : Prop := match q with
  | .next t => ∃ y : ADf, t = s y.M y.i ∧ ((l.length : Int) - y.i).toNat < ((l.length : Int) - x.i).toNat ∧ preL d l y R
  | .done e t => R (e, t)
theorem inL_in (s : Mc → Int → St) (d : Mc → St) (l : List Dv) (x : ADf) (R : NExit × St → Prop) (h : preL d l x R) : inL s d x.M l x.i (nxtL s d l x R) := by
  obtain ⟨M, i⟩ := x
  obtain ⟨⟨h0, hle⟩, hL, hg, hok, hR⟩ := h
  simp only at h0 hle hg hok hR
  unfold inL
  rw [hg.bk]
  by_cases hlt : i < (l.length : Int)
  · have hj : i.toNat < l.length := by omega
    have hw : IntKind.i64.wrap (i + 1) = i + 1 := by rw [IntKind.wrap_i64]; omega
    have ht : (i + 1).toNat = i.toNat + 1 := by omega
    rw [rwD_eq hj, hw]
    rw [List.drop_eq_getElem_cons hj] at hok hR
    obtain ⟨k1, k2, k3⟩ := hok
    have hb := byV_in l[i.toNat]
    refine sT (decide_eq_true hlt) (sT (decide_eq_true h0) (sT (decide_eq_true hlt) (sT (decide_eq_true (by rw [Nat.zero_add, List.length_map]; exact hj)) ⟨⟨rfl, k1⟩, ⟨rfl, hg.ok⟩, ⟨rfl, hg, hb, k2⟩, ?_⟩)))
    exact ⟨⟨(M.step (byV l[i.toNat])).1, i + 1⟩, rfl, by simp only; omega, ⟨by simp only; omega, by simp only; omega⟩, hL, step_good hg hb, by simp only; rw [ht]; exact k3, by simp only; rw [ht]; exact hR⟩
  · refine sF (decide_eq_false hlt) ?_
    rw [List.drop_eq_nil_iff.2 (by omega)] at hR
    exact hR
theorem round_Pl (a b : Int) (sr : Bool) (T : List Int) (M : Mc) (l : List Dv) (i : Int) (R : RO → Prop) : (rPl (sPl a b sr T M l i)).run R = inL (fun M i => sPl a b sr T M l i) (dPl a b sr) M l i R := by kernel_rfl
def hdT (m a n : Int) (T : List Int) : Dv := ⟨1, m, a, 0, n, [], T, [], []⟩
def rwT (m n : Int) (T : List Int) : Dv := ⟨2, m, 0, 0, n, [], T, [], []⟩
def flg : Bool → Int
  | true => 128
  | false => 0
def lstP (a b : Int) (sr : Bool) (T : List Int) : List Dv := [hdT 0 a 0 T, hdT 1 b 0 T, rwT 0 3 T, rwT 1 4 T, hdT 0 5 (flg sr) []]
def rdPl (s : St) : Option (Int × Int × Bool × List Int) := match s.fr[(0 : Nat)]?, s.fr[(1 : Nat)]?, s.fr[(2 : Nat)]?, s.fr[(3 : Nat)]? with
  | some (.v (.c (.i _ a))), some (.v (.c (.i _ b))), some (.v (.c (.b sr))), some (.v (.c (.l _ T))) => some (a, b, sr, T)
  | _, _, _, _ => none
noncomputable def lPl (s : St) : Tr (NExit × St) := match rdPl s with
  | some (a, b, sr, T) => .must (s = sPl a b sr T (mcN 9) (lstP a b sr T) 0 ∧ okRun (mcN 9) (lstP a b sr T)) (.ret (.normal, dPl a b sr (runP (mcN 9) (lstP a b sr T))))
  | none => .fail
set_option maxRecDepth 100000 in
theorem loop_pl : LOk Tryz.prog GL 0 0 (bodyLoop f_pl 0) lPl := by
  refine loop_ok (X := X_pl) kc_pl mixed (LAll.none (by kernel_rfl)) [0, 1, 2, 3, 9, 10, 13, 14] [0, 1, 2, 9, 10] (α := (Int × Int × Bool × List Int × List Dv) × ADf) (fun x => sPl x.1.1 x.1.2.1 x.1.2.2.1 x.1.2.2.2.1 x.2.M x.1.2.2.2.2 x.2.i) (fun x => ((x.1.2.2.2.2.length : Int) - x.2.i).toNat) (fun x R => preL (dPl x.1.1 x.1.2.1 x.1.2.2.1) x.1.2.2.2.2 x.2 R) ?_ ?_
  · intro s R h
    unfold lPl at h
    split at h
    case h_2 => exact h.elim
    rename_i a b sr T hx
    obtain ⟨⟨hs, hok⟩, hR⟩ := h
    have hl : (lstP a b sr T).length ≤ 1000 := by simp [lstP]
    exact ⟨((a, b, sr, T, lstP a b sr T), ⟨mcN 9, 0⟩), hs, ⟨by simp only; omega, by simp only; omega⟩, hl, mcN_good (by omega) (by omega), hok, hR⟩
  · rintro ⟨⟨a, b, sr, T, l⟩, x⟩ R h
    refine Tr.run_mono _ (fun q hq => ?_) (Box.of_eq (round_Pl a b sr T x.M l x.i (nxtL (fun M i => sPl a b sr T M l i) (dPl a b sr) l x R)) (inL_in _ _ l x R h)).out
    cases q with
    | done e s => exact hq
    | next s =>
      obtain ⟨y, h1, h2, h3⟩ := hq
      exact ⟨((a, b, sr, T, l), y), h1, h2, h3⟩
noncomputable def t_pl : Con := fun args regs => if regs.length = 0 then nfun Tryz.prog GL c_pl [(0, [0, 1, 2, 3, 9, 10, 13, 14], lPl)] f_pl args regs else .fail
theorem k_pl : Known Tryz.prog GL 6 t_pl := known_loops 0 Tryz.func6 rfl (by kernel_rfl) mixed kc_pl (LAll.one (id := 0) (body := bodyLoop f_pl 0) (by kernel_rfl) rfl loop_pl)
def kA (a : Int) : Ky := (0 % 3 + 1, plP a, plS 3)
def kB (b : Int) : Ky := (1 % 3 + 1, plP b, plS 3)
def thAt (p : Pg) (n : Nat) : Bool := ((p.th.getD n []).getD 0 (.i 0)).t
noncomputable def oBl (b : Bool) : Out := ⟨.v (.c (.b b)), []⟩
noncomputable def fin (b : Int) (y : Pg × Bool) (two : Ky × Bool) (R : Out → Prop) : Bool → Prop
  | true => sel (thAt y.1 4) (R (oBl (!thAt y.1 3))) (R (oBl false))
  | false => plA ⟨1, 1, b, 0, 0, [], [], [], []⟩ ∧ ((two.1.1 = 1 % 3 + 1 ∧ two.1.2.1 = plP b ∧ two.1.2.2 = plS 0) ∧ R (oBl true))
noncomputable def ansP (b : Int) (sr : Bool) (x y : Pg × Bool) (one two : Ky × Bool) (R : Out → Prop) : Prop :=
  sel (!x.2) (R (oBl false)) (sel (!thAt x.1 3) (R (oBl false)) (sel (thAt x.1 4) (R (oBl false)) (sel one.2 (R (oBl false)) (sel (y.2 != sr) (R (oBl false)) (sel (two.2 == sr) (R (oBl false)) (fin b y two R sr))))))
def ptr (x : NV) : Prop := [NV.c (.p 0 0 0), x] = [NV.c (.p 0 0 0), x]
noncomputable def bkA (M : Mc) : Prop := inM M = inM (bk M) ∧ (bk M).ok
noncomputable def bodyP (a b : Int) (sr : Bool) (M : Mc) (R : Out → Prop) : Prop :=
  plA ⟨1, 0, a, 3, 0, [], [], [], []⟩ ∧ (bkA M ∧ ((ptr (.ag (sto.kyNC (kA a))) ∧ (bk M).good) ∧ (plA ⟨1, 1, b, 3, 0, [], [], [], []⟩ ∧ (bkA (bk M) ∧ ((ptr (.ag (sto.kyNC (kB b))) ∧ (bk (bk M)).good) ∧
    (bkA (bk (bk M)) ∧ ((ptr (.c (.i .i64 1)) ∧ (1 : Int) ≤ 1 ∧ (1 : Int) ≤ 8) ∧ (bkA (bk (bk (bk M))) ∧ ((ptr (.c (.i .i64 2)) ∧ (1 : Int) ≤ 2 ∧ (2 : Int) ≤ 8) ∧
      ansP b sr ((bk M).find (kA a)) ((bk (bk M)).find (kB b)) ((bk (bk (bk M))).openP 1) ((bk (bk (bk (bk M)))).openP 2) R)))))))))
noncomputable def plT (a b : Int) (sr : Bool) (T : List Int) (R : Out → Prop) : Prop :=
  sel (decide ((T.length : Int) > 32)) (R (oBl true)) ([NV.c (.i .i64 9)] = [NV.c (.i .i64 9)] ∧ (nmA 5 ∧ (nmA 5 ∧ ((sPl (a % 5) (b % 5) sr T (mcN 9) (lstP (a % 5) (b % 5) sr T) 0 = sPl (a % 5) (b % 5) sr T (mcN 9) (lstP (a % 5) (b % 5) sr T) 0 ∧ okRun (mcN 9) (lstP (a % 5) (b % 5) sr T)) ∧
    bodyP (a % 5) (b % 5) sr (runP (mcN 9) (lstP (a % 5) (b % 5) sr T)) R))))
theorem pl_1 (a b : Int) (T : List Int) (R : Out → Prop) : (t_pl [.c (.i .i64 a), .c (.i .i64 b), .c (.b true), .c (.l .u8 T)] []).run R = plT a b true T R := by kernel_rfl
theorem pl_0 (a b : Int) (T : List Int) (R : Out → Prop) : (t_pl [.c (.i .i64 a), .c (.i .i64 b), .c (.b false), .c (.l .u8 T)] []).run R = plT a b false T R := by kernel_rfl
end Go.Proofs.YtdhhjgplnmpjcaaGreatDoor.pl
namespace Go.Proofs.YtdhhjgplnmpjcaaGreatDoor.pl
open Go.Proofs.YtdhhjgplnmpjcaaGreatDoor.sto (sT sF Ky)
open Go.Proofs.YtdhhjgplnmpjcaaGreatDoor.ac (Pg)
open Go Go.Nx Go.Proofs.YtdhhjgplnmpjcaaGreatDoor.pk Go.Proofs.YtdhhjgplnmpjcaaGreatDoor.mac Go.Proofs.YtdhhjgplnmpjcaaGreatDoor.bm Go.Proofs.YtdhhjgplnmpjcaaGreatDoor.df
def okDb (d : Dv) : Bool := d.k == 1 || (d.k == 2 || (d.k == 5 || d.k == 6))
noncomputable def okB (M : Mc) : List Dv → Bool
  | [] => true
  | d :: l => okDb d && ((M.step (byV d)).2.isNone && okB (M.step (byV d)).1 l)
theorem okRun_of : ∀ {l : List Dv} {M : Mc}, okB M l = true → okRun M l
  | [], _, _ => trivial
  | d :: l, M, h => by
    unfold okB at h
    rw [Bool.and_eq_true, Bool.and_eq_true] at h
    refine ⟨?_, Option.isNone_iff_eq_none.1 h.2.1, okRun_of h.2.2⟩
    have h1 := h.1
    unfold okDb at h1
    unfold okD
    simpa only [Bool.or_eq_true, beq_iff_eq] using h1
theorem runP_good : ∀ {l : List Dv} {M : Mc}, M.good → (runP M l).good
  | [], _, h => h
  | d :: l, M, h => runP_good (l := l) (step_good h (byV_in d))
noncomputable def finB (b : Int) (sr : Bool) (y : Pg × Bool) (two : Ky × Bool) : Bool := match sr with
  | true => thAt y.1 4 && !thAt y.1 3
  | false => two.1.1 == 1 % 3 + 1 && (two.1.2.1 == plP b && two.1.2.2 == plS 0)
noncomputable def ansB (b : Int) (sr : Bool) (x y : Pg × Bool) (one two : Ky × Bool) : Bool :=
  x.2 && (thAt x.1 3 && (!thAt x.1 4 && (!one.2 && (y.2 == sr && ((two.2 != sr) && finB b sr y two)))))
noncomputable def chk (a b : Int) (sr : Bool) (T : List Int) : Bool :=
  okB (mcN 9) (lstP a b sr T) && ansB b sr ((runP (mcN 9) (lstP a b sr T)).find (kA a)) ((runP (mcN 9) (lstP a b sr T)).find (kB b)) ((runP (mcN 9) (lstP a b sr T)).openP 1) ((runP (mcN 9) (lstP a b sr T)).openP 2)
theorem chk_1 (T : List Int) : ((List.range 5).all fun a => (List.range 5).all fun b => chk (Int.ofNat a) (Int.ofNat b) true T) = true := by kernel_rfl
theorem chk_0 (T : List Int) : ((List.range 5).all fun a => (List.range 5).all fun b => chk (Int.ofNat a) (Int.ofNat b) false T) = true := by kernel_rfl
theorem chk_s (T : List Int) : ∀ sr : Bool, ((List.range 5).all fun a => (List.range 5).all fun b => chk (Int.ofNat a) (Int.ofNat b) sr T) = true
  | true => chk_1 T
  | false => chk_0 T
theorem chk_all (a b : Int) (sr : Bool) (T : List Int) : chk (a % 5) (b % 5) sr T = true := by
  have h := List.all_eq_true.1 (chk_s T sr) (a % 5).toNat (List.mem_range.2 (by omega))
  have h := List.all_eq_true.1 h (b % 5).toNat (List.mem_range.2 (by omega))
  have e1 : Int.ofNat (a % 5).toNat = a % 5 := by show (((a % 5).toNat : Nat) : Int) = a % 5; omega
  have e2 : Int.ofNat (b % 5).toNat = b % 5 := by show (((b % 5).toNat : Nat) : Int) = b % 5; omega
  rw [e1, e2] at h
  exact h
theorem ans_in {b : Int} {sr : Bool} {x y : Pg × Bool} {one two : Ky × Bool} {R : Out → Prop} (h : ansB b sr x y one two = true) (hR : R (oBl true)) : ansP b sr x y one two R := by
  unfold ansB at h
  simp only [Bool.and_eq_true, Bool.not_eq_true'] at h
  obtain ⟨h1, h2, h3, h4, h5, h6, h7⟩ := h
  unfold ansP
  refine sF (by rw [h1]; rfl) (sF (by rw [h2]; rfl) (sF h3 (sF h4 (sF (by rw [bne, h5]; rfl) (sF (by rw [bne, Bool.not_eq_true'] at h6; exact h6) ?_)))))
  cases sr with
  | true =>
    unfold finB at h7
    simp only [Bool.and_eq_true, Bool.not_eq_true'] at h7
    exact sT h7.1 (by rw [h7.2]; exact hR)
  | false =>
    unfold finB at h7
    simp only [Bool.and_eq_true, beq_iff_eq] at h7
    exact ⟨rfl, ⟨h7.1, h7.2.1, h7.2.2⟩, hR⟩
attribute [local irreducible] runP okB in
set_option maxRecDepth 100000 in
theorem pl_in' (a b : Int) (sr : Bool) (T : List Int) (R : Out → Prop) (hR : R (oBl true)) : plT a b sr T R := by
  have h := chk_all a b sr T
  unfold chk at h
  rw [Bool.and_eq_true] at h
  have hok := okRun_of h.1
  have hg : (runP (mcN 9) (lstP (a % 5) (b % 5) sr T)).good := runP_good (mcN_good (by omega) (by omega))
  have n5 : nmA 5 := ⟨by decide, by decide⟩
  have h2 := h.2
  unfold plT
  by_cases hT : (T.length : Int) > 32
  · exact sT (decide_eq_true hT) hR
  · refine sF (decide_eq_false hT) ⟨rfl, n5, n5, ⟨rfl, hok⟩, ?_⟩
    generalize (runP (mcN 9) (lstP (a % 5) (b % 5) sr T)) = M at *
    unfold bodyP bkA ptr
    rw [hg.bk, hg.bk, hg.bk, hg.bk]
    exact ⟨rfl, ⟨rfl, hg.ok⟩, ⟨rfl, hg⟩, rfl, ⟨rfl, hg.ok⟩, ⟨rfl, hg⟩, ⟨rfl, hg.ok⟩, ⟨rfl, by decide, by decide⟩, ⟨rfl, hg.ok⟩, ⟨rfl, by decide, by decide⟩, ans_in h2 hR⟩
attribute [local irreducible] t_pl in
theorem pl_holds (a b : Int) (sr : Bool) (T : List Int) (R : Out → Prop) (hR : R (oBl true)) : Box ((t_pl [.c (.i .i64 a), .c (.i .i64 b), .c (.b sr), .c (.l .u8 T)] []).run R) := by
  cases sr with
  | true => exact Box.of_eq (pl_1 a b T R) (pl_in' a b true T R hR)
  | false => exact Box.of_eq (pl_0 a b T R) (pl_in' a b false T R hR)
attribute [local irreducible] t_pl in
set_option maxRecDepth 100000 in
theorem pl_yes (a b : Int) (sr : Bool) (T : List Int) : Holds (t_pl [.c (.i .i64 a), .c (.i .i64 b), .c (.b sr), .c (.l .u8 T)] []) fun q => q.res = .v (.c (.b true)) := ⟨Box.out (pl_holds a b sr T _ rfl)⟩
def shsPl : List Sh := [.i .i64, .i .i64, .b, .row .u8]
theorem pl_law (xs : List NV) (h : R2 ShOk shsPl xs) : Holds (t_pl xs []) fun o => o.res = .v (.c (.b true)) := by
  cases h with
  | cons h1 h =>
    cases h with
    | cons h2 h =>
      cases h with
      | cons h3 h =>
        cases h with
        | cons h4 h =>
          cases h
          cases h1 with
          | @i _ a _ =>
            cases h2 with
            | @i _ b _ =>
              cases h3 with
              | @b sr =>
                cases h4 with
                | @row _ T hT => exact pl_yes a b sr T
end Go.Proofs.YtdhhjgplnmpjcaaGreatDoor.pl
