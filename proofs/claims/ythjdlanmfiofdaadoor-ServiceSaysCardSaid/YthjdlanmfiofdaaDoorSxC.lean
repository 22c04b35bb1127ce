/-
  What is told is read: numbers, digits, signs.
-/
import Derived.Test.YthjdlanmfiofdaaDoorSxB
import Derived.Test.YthjdlanmfiofdaaDoorHdQ
import Derived.Test.YthjdlanmfiofdaaDoorEng24
namespace Go.Proofs.YthjdlanmfiofdaaDoor.sv
open Go Go.Nx Go.Proofs.YthjdlanmfiofdaaDoor.pk Go.Proofs.YthjdlanmfiofdaaDoor.ln Go.Proofs.YthjdlanmfiofdaaDoor.hd Go.Proofs.YthjdlanmfiofdaaDoor.lb

theorem same_tree (a b e n o d h mi s : Int) (z : ByteArray) (R : Out → Prop) : (Go.Proofs.YthjdlanmfiofdaaDoor.sv.t_same [.ag (infC a b e n o d h mi s z), .ag (infC a b e n o d h mi s z)] []).run R =
    ((a = a ∧ b = b ∧ e = e) ∧ sel (n == n) (sel (o == o) (sel (d == d) (sel (h == h) (sel (mi == mi) (sel (s == s) (R (oB (z.toList == z.toList))) (R (oB false))) (R (oB false))) (R (oB false))) (R (oB false))) (R (oB false))) (R (oB false))) := by kernel_rfl
noncomputable def tSame : Con := fun args regs => match args, regs with
  | [.ag xs, .ag ys], [] => .must (xs = ys ∧ ∃ (a b e n o d h mi s : Int) (z : ByteArray), xs = infC a b e n o d h mi s z) (.ret (oB true))
  | _, _ => .fail
set_option maxRecDepth 100000 in
theorem kSame : Known Tryd.prog GL 52 tSame := by
  refine Known.less Go.Proofs.YthjdlanmfiofdaaDoor.sv.k_same fun args regs R h => Box.out ?_
  unfold tSame at h
  split at h
  case h_2 => exact h.elim
  have h1 := h.1
  have h2 := h.2
  clear h
  obtain ⟨rfl, a, b, e, n, o, d, h, mi, s, z, rfl⟩ := h1
  refine Box.of_eq (same_tree a b e n o d h mi s z R) ⟨⟨rfl, rfl, rfl⟩, selT (beq_self_eq_true _) (selT (beq_self_eq_true _) (selT (beq_self_eq_true _) (selT (beq_self_eq_true _) (selT (beq_self_eq_true _) (selT (beq_self_eq_true _) ?_)))))⟩
  rw [beq_self_eq_true]
  exact h2
noncomputable def tSbtF : Con := fun args regs => match args, regs with
  | [.ag [.i .i64 a, .i .i64 b, .i .i64 e, .i .i64 n, .i .i64 o, .i .i64 d, .i .i64 h, .i .i64 mi, .i .i64 s, .s z]], [] => .must (okBt a b e n o d h mi s z = true) (.ret (oBt (LB (decide (o < 0)) a b e n o d h mi s z)))
  | _, _ => .fail
set_option maxRecDepth 100000 in
theorem kSbtF : Known Tryd.prog GL 53 tSbtF := by
  refine kSbt.less fun args regs R h => ?_
  unfold tSbtF at h
  split at h
  case h_2 => exact h.elim
  have h1 := h.1
  have h2 := h.2
  clear h
  exact selT h1 h2
noncomputable def tSrdF : Con := fun args regs => match args, regs with
  | [.ag [.i .i64 m, .i .i64 _, .i .i64 k, .i .i64 c, .l .u8 ds]], [] => .must (okK m k c = true ∧ all6 ds = true ∧ clkG (gD ds) = true ∧ ds.length = 39 ∧ ∀ x ∈ ds, 0 ≤ x ∧ x < 256) (.ret (oIn ds (ofS ds)))
  | _, _ => .fail
set_option maxRecDepth 100000 in
theorem kSrdF : Known Tryd.prog GL 49 tSrdF := by
  refine kSrd.less fun args regs R h => ?_
  unfold tSrdF at h
  split at h
  case h_2 => exact h.elim
  have h1 := h.1
  have h2 := h.2
  clear h
  exact ⟨fun _ => h1.2.2.2, selT h1.1 (selT h1.2.1 (selT h1.2.2.1 h2))⟩
noncomputable def raT (bs : List Int) : Int := rowOf (getN (bs.getD 0 0)) (getN (bs.getD 1 0))
def mRd (bs : List Int) : Prop := bs.length = 42 ∧ getB (bs.getD 0 0) = true ∧ getB (bs.getD 1 0) = true ∧ (kindF (raT bs) ≠ 0 ∧ raT bs ≥ 26) ∧ getB ((bs.drop 2).getD 0 0) = true
noncomputable def tRdV : Con := fun args regs => match args, regs with
  | [.c (.l .u8 bs)], [] => .must (bs.length = 42 ∧ getB (bs.getD 0 0) = true ∧ getB (bs.getD 1 0) = true ∧ (kindF (raT bs) ≠ 0 ∧ raT bs ≥ 26) ∧ getB ((bs.drop 2).getD 0 0) = true) (.ret (oPk (magOf (getN (bs.getD 0 0))) (raT bs) (kindF (raT bs)) (getN ((bs.drop 2).getD 0 0)) ((bs.drop 2).drop 1)))
  | _, _ => .fail
set_option maxRecDepth 100000 in
theorem kRdV : Known Tryd.prog GL 15 tRdV := by
  refine kRead.less fun args regs R h => ?_
  unfold tRdV at h
  split at h
  case h_2 => exact h.elim
  have h1 := h.1
  have h2 := h.2
  clear h
  obtain ⟨hl, g0, g1, hr, g2⟩ := h1
  exact selT (dT hl) (selT (by rw [g0, g1]; rfl) (selF (dF hr.1) (selT (dT hr.2) (selT g2 h2))))
theorem first11_tree (R : Out → Prop) : (t_first11 [] []).run R = R (oB true) := by kernel_rfl
noncomputable def tYes : Con := fun args regs => match args, regs with
  | [], [] => .ret (oB true)
  | _, _ => .fail
set_option maxRecDepth 100000 in
theorem kYes : Known Tryd.prog GL 48 tYes := by
  refine k_first11.less fun args regs R h => Box.out ?_
  unfold tYes at h
  split at h
  case h_2 => exact h.elim
  exact Box.of_eq (first11_tree R) h
/-! ### the loop that makes a text -/
noncomputable abbrev fBk := Tryd.f12
noncomputable def fS (x : Int) : Int := oU (aU x 95) 32
noncomputable def vals (n dy tm of : Int) (tx : List Int) (at1 : Int) (ok : Bool) (s : NC) (i : Int) : List (Nat × NS) := [(0, .v (.c (.i .i64 n))), (1, .v (.c (.i .i64 dy))), (2, .v (.c (.i .i64 tm))), (3, .v (.c (.i .i64 of))), (4, .v (.c (.l .u8 tx))), (5, .v (.c (.i .i64 at1))), (13, .v (.c (.b ok))), (14, .v (.c s)), (15, .v (.c (.i .i64 i)))]
noncomputable def valD (n dy tm of at1 : Int) (ok : Bool) (s : NC) : List (Nat × NS) := [(0, .v (.c (.i .i64 n))), (1, .v (.c (.i .i64 dy))), (2, .v (.c (.i .i64 tm))), (3, .v (.c (.i .i64 of))), (5, .v (.c (.i .i64 at1))), (13, .v (.c (.b ok))), (14, .v (.c s))]
noncomputable def rA (A : List Int) : Option Reg := some ⟨1, 5, .ints .u8 A⟩
noncomputable def sB0 (n dy tm of : Int) (tx : List Int) (at1 : Int) (ok : Bool) : St := { fr := frame 140 (vals n dy tm of tx at1 ok .sn 0), rg := [] }
noncomputable def sB1 (n dy tm of : Int) (tx : List Int) (at1 : Int) (ok : Bool) (A : List Int) (q : Nat) (i : Int) : St := { fr := frame 140 (vals n dy tm of tx at1 ok (.h 0 0 q) i), rg := [rA A] }
noncomputable def dB1 (n dy tm of at1 : Int) (ok : Bool) (A : List Int) (q : Nat) : St := { fr := frame 140 (valD n dy tm of at1 ok (.h 0 0 q)), rg := [rA A] }
noncomputable def dB0 (n dy tm of at1 : Int) (ok : Bool) : St := { fr := frame 140 (valD n dy tm of at1 ok .sn), rg := [] }
noncomputable def X_bk : Cx := { P := Tryd.prog, con := fun _ => Option.none, glob := GL, m := 0, loops := [] }
def ixT (tx : List Int) (i : Int) (X : Prop) : Prop := sel (decide (0 ≤ i)) (sel (decide (i < (tx.length : Int))) (sel (decide (i.toNat < tx.length)) X False) False) False
theorem round_bk0 (n dy tm of : Int) (tx : List Int) (at1 : Int) (ok : Bool) (R : RO → Prop) : (roundT X_bk 0 [0, 1, 2, 3, 4, 5, 13, 14, 15] [0, 1, 2, 3, 5, 13, 14] (bodyLoop fBk 0) (sB0 n dy tm of tx at1 ok)).run R =
    sel (decide ((0 : Int) < (tx.length : Int))) (sel (decide ((0 : Int) < (tx.length : Int))) (sel (decide ((0 : Int).toNat < tx.length)) (R (.next (sB1 n dy tm of tx at1 ok [fS (tx.getD 0 0)] 1 1))) False) False) (R (.done .normal (dB0 n dy tm of at1 ok))) := by kernel_rfl
theorem round_bk1 (n dy tm of : Int) (tx : List Int) (at1 : Int) (ok : Bool) (A : List Int) (q : Nat) (i : Int) (R : RO → Prop) : (roundT X_bk 0 [0, 1, 2, 3, 4, 5, 13, 14, 15] [0, 1, 2, 3, 5, 13, 14] (bodyLoop fBk 0) (sB1 n dy tm of tx at1 ok A q i)).run R =
    sel (decide (i < (tx.length : Int))) (ixT tx i (appS q A (R (.next (sB1 n dy tm of tx at1 ok (List.take q (List.drop 0 A) ++ [fS (tx.getD i.toNat 0)]) (q + 1) (IntKind.i64.wrap (i + 1))))))) (R (.done .normal (dB1 n dy tm of at1 ok A q))) := by kernel_rfl
noncomputable def pB0 : List Pat := pats 140 [(0, .i .i64), (1, .i .i64), (2, .i .i64), (3, .i .i64), (4, .l .u8), (5, .i .i64), (13, .b), (14, .sn), (15, .i .i64)]
noncomputable def lB0 : List Leaf × List (List Leaf) → Tr (NExit × St) := fun x => match x with
  | ([.i n, .i dy, .i tm, .i of, .l tx, .i at1, .b ok, .i i], []) => .must (i = 0 ∧ 0 < tx.length ∧ tx.length ≤ 20) (.ret (.normal, dB1 n dy tm of at1 ok (tx.map fS) tx.length))
  | _ => .fail
theorem mk_b0 (n dy tm of : Int) (tx : List Int) (at1 : Int) (ok : Bool) : mkSt pB0 [] ([.i n, .i dy, .i tm, .i of, .l tx, .i at1, .b ok, .i 0], []) = sB0 n dy tm of tx at1 ok := by kernel_rfl
structure Vb where
  n : Int
  dy : Int
  tm : Int
  of : Int
  tx : List Int
  at1 : Int
  ok : Bool
noncomputable def gB (v : Vb) : Nat → St
  | 0 => sB0 v.n v.dy v.tm v.of v.tx v.at1 v.ok
  | k + 1 => sB1 v.n v.dy v.tm v.of v.tx v.at1 v.ok ((v.tx.take (k + 1)).map fS) (k + 1) ((k + 1 : Nat) : Int)
noncomputable def preB (v : Vb) (k : Nat) (R : NExit × St → Prop) : Prop := (k ≤ v.tx.length ∧ 0 < v.tx.length ∧ v.tx.length ≤ 20) ∧ R (.normal, dB1 v.n v.dy v.tm v.of v.at1 v.ok (v.tx.map fS) v.tx.length)
set_option maxRecDepth 100000 in
theorem lB0_inv {x : List Leaf × List (List Leaf)} {R : NExit × St → Prop} (h : (lB0 x).run R) : ∃ v : Vb, x = ([.i v.n, .i v.dy, .i v.tm, .i v.of, .l v.tx, .i v.at1, .b v.ok, .i 0], []) ∧ preB v 0 R := by
  unfold lB0 at h
  split at h
  case h_2 => exact h.elim
  rename_i n dy tm of tx at1 ok i
  have h1 := h.1
  have h2 := h.2
  clear h
  obtain ⟨rfl, h3, h4⟩ := h1
  exact ⟨⟨n, dy, tm, of, tx, at1, ok⟩, rfl, ⟨Nat.zero_le _, h3, h4⟩, h2⟩
set_option maxRecDepth 100000 in
theorem loop_bk0 : LOk Tryd.prog GL 0 0 (bodyLoop fBk 0) (sumP pB0 [] lB0) := by
  refine loop_ok (X := X_bk) con_none mixed (LAll.none (by kernel_rfl)) [0, 1, 2, 3, 4, 5, 13, 14, 15] [0, 1, 2, 3, 5, 13, 14] (fun x : Vb × Nat => gB x.1 x.2) (fun x => x.1.tx.length - x.2) (fun x R => preB x.1 x.2 R) (fun s R h => ?_) ?_
  · unfold sumP at h
    split at h
    · rename_i p q h1 h2
      obtain ⟨v, he, hp⟩ := lB0_inv h
      refine ⟨(v, 0), ?_, hp⟩
      show s = sB0 v.n v.dy v.tm v.of v.tx v.at1 v.ok
      rw [← mk_b0, ← he]
      unfold mkSt
      rw [readL_spec (fun p x l h => Pat.readS_spec h) h1, readRg_spec h2]
    · exact h.elim
  · rintro ⟨v, k⟩ R hp
    have hp : preB v k R := hp
    obtain ⟨⟨hk, h0, h20⟩, hR⟩ := hp
    cases k with
    | zero =>
      show (roundT X_bk 0 [0, 1, 2, 3, 4, 5, 13, 14, 15] [0, 1, 2, 3, 5, 13, 14] (bodyLoop fBk 0) (sB0 v.n v.dy v.tm v.of v.tx v.at1 v.ok)).run _
      rw [round_bk0]
      refine selT (dT (by omega)) (selT (dT (by omega)) (selT (dT (by simpa using h0)) ⟨(v, 1), ?_, by show v.tx.length - 1 < v.tx.length - 0; omega, ⟨(h0 : 1 ≤ v.tx.length), h0, h20⟩, hR⟩))
      have e : (v.tx.take 1).map fS = [fS (v.tx.getD 0 0)] := by
        cases ht : v.tx with
        | nil => rw [ht] at h0; cases h0
        | cons x l => rfl
      show sB1 v.n v.dy v.tm v.of v.tx v.at1 v.ok [fS (v.tx.getD 0 0)] 1 1 = sB1 v.n v.dy v.tm v.of v.tx v.at1 v.ok ((v.tx.take 1).map fS) 1 1
      rw [e]
    | succ k =>
      show (roundT X_bk 0 [0, 1, 2, 3, 4, 5, 13, 14, 15] [0, 1, 2, 3, 5, 13, 14] (bodyLoop fBk 0) (sB1 v.n v.dy v.tm v.of v.tx v.at1 v.ok ((v.tx.take (k + 1)).map fS) (k + 1) ((k + 1 : Nat) : Int))).run _
      rw [round_bk1]
      have hlen : ((v.tx.take (k + 1)).map fS).length = k + 1 := by rw [List.length_map, List.length_take]; omega
      refine sel_by (fun hlt => ?_) fun hge => ?_
      · have w2 : IntKind.i64.wrap (((k + 1 : Nat) : Int) + 1) = ((k + 1 + 1 : Nat) : Int) := by rw [IntKind.wrap_i64]; omega
        have en : (((k + 1 : Nat) : Int)).toNat = k + 1 := by omega
        have hx : k + 1 < v.tx.length := by omega
        have ea : List.take (k + 1) (List.drop 0 ((v.tx.take (k + 1)).map fS)) ++ [fS (v.tx.getD (k + 1) 0)] = (v.tx.take (k + 1 + 1)).map fS := by
          rw [List.drop_zero, List.take_of_length_le (by omega), List.take_succ_eq_append_getElem hx, List.map_append, List.getD_eq_getElem?_getD, List.getElem?_eq_getElem hx]
          rfl
        rw [w2, en, ea]
        exact selT (dT (by omega)) (selT (dT hlt) (selT (dT (by omega)) (selT (dT (by omega)) (selT (dT (by omega)) (selT (dT (by omega)) ⟨(v, k + 1 + 1), rfl, by show v.tx.length - (k + 1 + 1) < v.tx.length - (k + 1); omega, ⟨(hx : k + 1 + 1 ≤ v.tx.length), h0, h20⟩, hR⟩)))))
      · have e : k + 1 = v.tx.length := by omega
        have et : (v.tx.take (k + 1)).map fS = v.tx.map fS := by rw [e, List.take_length]
        rw [et, e]
        exact hR
/-! ### the loop that pads it -/
noncomputable def sB2 (at1 : Int) (ok : Bool) (a b e n o d h mi s : Int) (z : ByteArray) (Bl : List Int) (q2 : Nat) (A : List Int) (q : Nat) : St := { fr := frame 140 [(5, .v (.c (.i .i64 at1))), (13, .v (.c (.b ok))), (14, .v (.c (.h 0 0 q))), (16, .v (.c (.p 1 0 0))), (17, .v (.c (.h 2 0 q2)))], rg := [rA A, some ⟨10, 85, .cells (infC a b e n o d h mi s z)⟩, rA Bl] }
theorem round_bk2 (at1 : Int) (ok : Bool) (a b e n o d h mi s : Int) (z : ByteArray) (Bl : List Int) (q2 : Nat) (A : List Int) (q : Nat) (R : RO → Prop) : (roundT X_bk 2 [5, 13, 14, 16, 17] [5, 13, 14, 16, 17] (bodyLoop fBk 2) (sB2 at1 ok a b e n o d h mi s z Bl q2 A q)).run R =
    sel (decide ((q : Int) < 20)) (appS q A (R (.next (sB2 at1 ok a b e n o d h mi s z Bl q2 (List.take q (List.drop 0 A) ++ [32]) (q + 1))))) (R (.done .normal (sB2 at1 ok a b e n o d h mi s z Bl q2 A q))) := by kernel_rfl
noncomputable def pB2 : List Pat := pats 140 [(5, .i .i64), (13, .b), (14, .h 0 0), (16, .p 1 0 0), (17, .h 2 0)]
def rB2 : List RPat := [.ints 1 5 .u8, .cells 10 85 [.i .i64, .i .i64, .i .i64, .i .i64, .i .i64, .i .i64, .i .i64, .i .i64, .i .i64, .s], .ints 1 5 .u8]
noncomputable def lB2 : List Leaf × List (List Leaf) → Tr (NExit × St) := fun x => match x with
  | ([.i at1, .b ok, .n q, .n q2], [[.l A], [.i a, .i b, .i e, .i n, .i o, .i d, .i h, .i mi, .i s, .s z], [.l Bl]]) => .must (A.length = q ∧ q ≤ 20) (.ret (.normal, sB2 at1 ok a b e n o d h mi s z Bl q2 (A ++ List.replicate (20 - q) 32) 20))
  | _ => .fail
def muB2 : List Leaf × List (List Leaf) → Nat := fun x => match x with
  | ([.i _, .b _, .n q, .n _], _) => 20 - q
  | _ => 0
theorem mk_b2 (at1 : Int) (ok : Bool) (a b e n o d h mi s : Int) (z : ByteArray) (Bl : List Int) (q2 : Nat) (A : List Int) (q : Nat) : mkSt pB2 rB2 ([.i at1, .b ok, .n q, .n q2], [[.l A], [.i a, .i b, .i e, .i n, .i o, .i d, .i h, .i mi, .i s, .s z], [.l Bl]]) = sB2 at1 ok a b e n o d h mi s z Bl q2 A q := by kernel_rfl
set_option maxRecDepth 100000 in
theorem lB2_inv {x : List Leaf × List (List Leaf)} {R : NExit × St → Prop} (h : (lB2 x).run R) : ∃ (at1 : Int) (ok : Bool) (a b e n o d h mi s : Int) (z : ByteArray) (Bl : List Int) (q2 : Nat) (A : List Int) (q : Nat), x = ([.i at1, .b ok, .n q, .n q2], [[.l A], [.i a, .i b, .i e, .i n, .i o, .i d, .i h, .i mi, .i s, .s z], [.l Bl]]) ∧ (A.length = q ∧ q ≤ 20) ∧ R (.normal, sB2 at1 ok a b e n o d h mi s z Bl q2 (A ++ List.replicate (20 - q) 32) 20) := by
  unfold lB2 at h
  split at h
  case h_2 => exact h.elim
  exact ⟨_, _, _, _, _, _, _, _, _, _, _, _, _, _, _, _, rfl, h.1, h.2⟩
set_option maxRecDepth 100000 in
theorem loop_bk2 : LOk Tryd.prog GL 0 2 (bodyLoop fBk 2) (sumP pB2 rB2 lB2) := by
  refine sumP_ok (X := X_bk) con_none mixed (LAll.none (by kernel_rfl)) [5, 13, 14, 16, 17] [5, 13, 14, 16, 17] _ _ _ muB2 ?_
  intro x R hx
  obtain ⟨at1, ok, a, b, e, n, o, d, h, mi, s, z, Bl, q2, A, q, rfl, h1, h2⟩ := lB2_inv hx
  clear hx
  have hA := h1.1
  have hq := h1.2
  clear h1
  rw [mk_b2, round_bk2]
  refine sel_by (fun hlt => ?_) fun hge => ?_
  · refine selT (dT (by omega)) (selT (dT (by omega)) (selT (dT (by omega)) ⟨([.i at1, .b ok, .n (q + 1), .n q2], [[.l (List.take q (List.drop 0 A) ++ [32])], [.i a, .i b, .i e, .i n, .i o, .i d, .i h, .i mi, .i s, .s z], [.l Bl]]), (mk_b2 ..).symm, by show 20 - (q + 1) < 20 - q; omega, ?_, ?_⟩))
    · exact ⟨by rw [List.length_append, List.drop_zero, List.length_take]; show min q A.length + 1 = q + 1; omega, by omega⟩
    · show R (.normal, sB2 at1 ok a b e n o d h mi s z Bl q2 ((List.take q (List.drop 0 A) ++ [32]) ++ List.replicate (20 - (q + 1)) 32) 20)
      have er : 20 - q = 20 - (q + 1) + 1 := by omega
      have ea : (List.take q (List.drop 0 A) ++ [32]) ++ List.replicate (20 - (q + 1)) 32 = A ++ List.replicate (20 - q) 32 := by
        rw [List.drop_zero, List.take_of_length_le (by omega), er, List.replicate_succ, List.append_assoc]
        rfl
      rw [ea]
      exact h2
  · have e0 : q = 20 := by omega
    subst e0
    rw [show (20 : Nat) - 20 = 0 by decide, List.replicate_zero, List.append_nil] at h2
    exact h2
noncomputable def c_bkS : FuncId → Option Con := conOf [(48, tYes), (26, num.tNumV), (53, tSbtF), (15, tRdV), (49, tSrdF), (55, t_plain), (52, tSame)]
theorem kc_bkS : ∀ f T, c_bkS f = some T → Known Tryd.prog GL f T := (Knowns.cons kYes (.cons (known_gl num.kNumV) (.cons kSbtF (.cons kRdV (.cons kSrdF (.cons k_plain (.cons kSame .nil))))))).get
noncomputable def X_bkS : Cx := { P := Tryd.prog, con := c_bkS, glob := GL, m := 0, loops := [] }
noncomputable def t_bkS : Con := fun args regs => if regs.length = 0 then nfun Tryd.prog GL c_bkS [(0, [0, 1, 2, 3, 4, 5, 13, 14, 15], sumP pB0 [] lB0), (2, [5, 13, 14, 16, 17], sumP pB2 rB2 lB2)] Tryd.f12 args regs else .fail
theorem k_bkS : Known Tryd.prog GL 12 t_bkS := known_loops 0 Tryd.func12 rfl (by kernel_rfl) mixed kc_bkS (LAll.two (i1 := 0) (i2 := 2) (b1 := bodyLoop Tryd.f12 0) (b2 := bodyLoop Tryd.f12 2) (by kernel_rfl) rfl (by decide) loop_bk0 loop_bk2)
noncomputable def c_bkN : FuncId → Option Con := conOf [(48, tYes), (26, num.tNumV), (53, tSbtF), (15, tRdV), (49, tSrdF), (55, t_plain), (52, tSame)]
theorem kc_bkN : ∀ f T, c_bkN f = some T → Known Tryd.prog GL f T := (Knowns.cons kYes (.cons (known_gl num.kNumV) (.cons kSbtF (.cons kRdV (.cons kSrdF (.cons k_plain (.cons kSame .nil))))))).get
noncomputable def X_bkN : Cx := { P := Tryd.prog, con := c_bkN, glob := GL, m := 0, loops := [] }
noncomputable def t_bkN : Con := fun args regs => if regs.length = 0 then nfun Tryd.prog GL c_bkN [(0, [0, 1, 2, 3, 4, 5, 13, 14, 15], unroll X_bkN 0 [0, 1, 2, 3, 4, 5, 13, 14, 15] [0, 1, 2, 3, 5, 13, 14] (bodyLoop Tryd.f12 0) 1), (2, [5, 13, 14, 16, 17], unroll X_bkN 2 [5, 13, 14, 16, 17] [5, 13, 14, 16, 17] (bodyLoop Tryd.f12 2) 21)] Tryd.f12 args regs else .fail
theorem k_bkN : Known Tryd.prog GL 12 t_bkN := known_loops 0 Tryd.func12 rfl (by kernel_rfl) mixed kc_bkN (LAll.two (i1 := 0) (i2 := 2) (b1 := bodyLoop Tryd.f12 0) (b2 := bodyLoop Tryd.f12 2) (by kernel_rfl) rfl (by decide) (unroll_ok (X := X_bkN) kc_bkN mixed (LAll.none (by kernel_rfl)) [0, 1, 2, 3, 4, 5, 13, 14, 15] [0, 1, 2, 3, 5, 13, 14] 1) (unroll_ok (X := X_bkN) kc_bkN mixed (LAll.none (by kernel_rfl)) [5, 13, 14, 16, 17] [5, 13, 14, 16, 17] 21))
end Go.Proofs.YthjdlanmfiofdaaDoor.sv

namespace Go.Proofs.YthjdlanmfiofdaaDoor.sv
open Go Go.Nx Go.Proofs.YthjdlanmfiofdaaDoor.pk Go.Proofs.YthjdlanmfiofdaaDoor.ln Go.Proofs.YthjdlanmfiofdaaDoor.hd Go.Proofs.YthjdlanmfiofdaaDoor.lb

def mN (m : Int) : Prop := 0 < m ∧ m < 4611686018427387904
noncomputable def fa (n : Int) : Int := IntKind.i64.wrap (aI (n % 1073741824) 7 + 1)
noncomputable def fb (n : Int) : Int := aI (shrv .i64 (n % 1073741824) 3) 255
noncomputable def fe (n : Int) : Int := aI (shrv .i64 (n % 1073741824) 11) 16255
noncomputable def fn (n : Int) : Int := aI (n % 1073741824) 65535
noncomputable def fo (of : Int) : Int := IntKind.i64.wrap (of % 63 - 31)
def fd (dy : Int) : Int := dy % 100000
noncomputable def fh (tm : Int) : Int := IntKind.i64.wrap ((tm % 86400).tdiv 3600)
noncomputable def fm (tm : Int) : Int := (IntKind.i64.wrap ((tm % 86400).tdiv 60)).tmod 60
noncomputable def fs (tm : Int) : Int := (tm % 86400).tmod 60
noncomputable def L0 (n dy tm of : Int) (z : ByteArray) : List Int := LB (decide (fo of < 0)) (fa n) (fb n) (fe n) (fn n) (fo of) (fd dy) (fh tm) (fm tm) (fs tm) z
noncomputable def pB (a1 : Int) : Int := IntKind.i64.wrap (22 + a1 % 20)
noncomputable def TT (L : List Int) (a1 : Int) : List Int := List.take 42 (List.drop 0 (setI L (0 + (pB a1).toNat) (x8 (L.getD (0 + (pB a1).toNat) 0) 8) 0))
noncomputable def SS (A : List Int) (a1 : Int) : List Int := setI A (0 + (a1 % 20).toNat) 32 0
noncomputable def DS (T : List Int) : List Int := List.take (List.drop 1 (List.drop 2 T)).length (List.drop 0 (List.drop 1 (List.drop 2 T)))
def mSr (m k c : Int) (ds : List Int) : Prop := okK m k c = true ∧ all6 ds = true ∧ clkG (gD ds) = true ∧ ds.length = 39 ∧ ∀ x ∈ ds, 0 ≤ x ∧ x < 256
noncomputable def infD (ds : List Int) : List NC := infC (mgV ds) (pgV ds) (sbV ds) (nwV ds) (ofS ds) (dyV ds) (hrV ds) (miV ds) (seV ds) (txV ds)
noncomputable def infW (n dy tm of : Int) (z : ByteArray) : List NC := infC (fa n) (fb n) (fe n) (fn n) (fo of) (fd dy) (fh tm) (fm tm) (fs tm) z
noncomputable def endB (n dy tm of : Int) (L A : List Int) (a1 : Int) (R : Out → Prop) : Prop :=
  mRd (TT L a1) ∧ (mSr (magOf (getN ((TT L a1).getD 0 0))) (kindF (raT (TT L a1))) (getN ((List.drop 2 (TT L a1)).getD 0 0)) (DS (TT L a1)) ∧
    ((infD (DS (TT L a1)) = infW n dy tm of (strOfNums (List.take 20 (List.drop 0 (SS A a1)))) ∧ ∃ (a b e n o d h mi s : Int) (z : ByteArray), infD (DS (TT L a1)) = infC a b e n o d h mi s z) ∧ R (oB true)))
noncomputable def ix22 (L : List Int) (a1 : Int) (X : Prop) : Prop := sel (decide (0 ≤ pB a1)) (sel (decide (pB a1 < ((42 : Nat) : Int))) (sel (decide (0 + (pB a1).toNat < L.length)) X False) False) False
noncomputable def ix20 (A : List Int) (a1 : Int) (X : Prop) : Prop := sel (decide (0 ≤ a1 % 20)) (sel (decide (a1 % 20 < ((20 : Nat) : Int))) (sel (decide (0 + (a1 % 20).toNat < A.length)) X False) False) False
noncomputable def restB (n dy tm of : Int) (L A : List Int) (a1 : Int) (R : Out → Prop) : Prop :=
  mN 20 ∧ ix22 L a1 (ix22 L a1 (ix20 A a1 (sel (decide (0 + 20 ≤ (SS A a1).length)) (endB n dy tm of L A a1 R) False)))
noncomputable def mBt (n dy tm of : Int) (z : ByteArray) : Prop := okBt (fa n) (fb n) (fe n) (fn n) (fo of) (fd dy) (fh tm) (fm tm) (fs tm) z = true
noncomputable def ztx (tx : List Int) : ByteArray := strOfNums (List.take tx.length (List.drop 0 (tx.map fS)))
noncomputable def padT (tx : List Int) : List Int := tx.map fS ++ List.replicate (20 - tx.length) 32
theorem bkS_tree (n dy tm of : Int) (tx : List Int) (a1 : Int) (R : Out → Prop) : (t_bkS [.c (.i .i64 n), .c (.i .i64 dy), .c (.i .i64 tm), .c (.i .i64 of), .c (.l .u8 tx), .c (.i .i64 a1)] []).run R =
    sel (decide ((tx.length : Int) > 20)) (R (oB true)) (mN 100000 ∧ (mN 86400 ∧ (mN 63 ∧ (mN 1073741824 ∧ ((0 = (0 : Int) ∧ 0 < tx.length ∧ tx.length ≤ 20) ∧ sel (decide (0 + tx.length ≤ (tx.map fS).length)) (mBt n dy tm of (ztx tx) ∧ (((tx.map fS).length = tx.length ∧ tx.length ≤ 20) ∧ restB n dy tm of (L0 n dy tm of (ztx tx)) (padT tx) a1 R)) False))))) := by kernel_rfl
noncomputable def pad0 : List Int := [32, 32, 32, 32, 32, 32, 32, 32, 32, 32, 32, 32, 32, 32, 32, 32, 32, 32, 32, 32]
theorem bkN_tree (n dy tm of : Int) (a1 : Int) (R : Out → Prop) : (t_bkN [.c (.i .i64 n), .c (.i .i64 dy), .c (.i .i64 tm), .c (.i .i64 of), .c (.l .u8 []), .c (.i .i64 a1)] []).run R =
    (mN 100000 ∧ (mN 86400 ∧ (mN 63 ∧ (mN 1073741824 ∧ (mBt n dy tm of ByteArray.empty ∧ restB n dy tm of (L0 n dy tm of ByteArray.empty) pad0 a1 R))))) := by kernel_rfl
end Go.Proofs.YthjdlanmfiofdaaDoor.sv

namespace Go.Proofs.YthjdlanmfiofdaaDoor.sv
open Go Go.Nx Go.Proofs.YthjdlanmfiofdaaDoor.pk Go.Proofs.YthjdlanmfiofdaaDoor.ln Go.Proofs.YthjdlanmfiofdaaDoor.hd Go.Proofs.YthjdlanmfiofdaaDoor.lb

/-! ### bytes -/
theorem byN {x : Int} (h : 0 ≤ x ∧ x < 256) : ∃ m, m < 256 ∧ x = Int.ofNat m := ⟨x.toNat, by omega, by show x = ((x.toNat : Nat) : Int); omega⟩
theorem fS_all : ∀ m < 256, 32 ≤ fS (Int.ofNat m) ∧ fS (Int.ofNat m) ≤ 127 := by decide +kernel
theorem sg_all : ∀ m < 128, 32 ≤ m → sgn (mkO (Int.ofNat m)) = Int.ofNat m ∧ sgn (x8 (mkO (Int.ofNat m)) 8) = 32 := by decide +kernel
theorem sg_of {c : Int} (h : 32 ≤ c ∧ c ≤ 127) : sgn (mkO c) = c ∧ sgn (x8 (mkO c) 8) = 32 := by
  have := sg_all c.toNat (by omega) (by omega)
  rwa [show Int.ofNat c.toNat = c by show ((c.toNat : Nat) : Int) = c; omega] at this
theorem rv_all : ∀ m < 256, rv (rv (Int.ofNat m)) = Int.ofNat m ∧ (0 ≤ rv (Int.ofNat m) ∧ rv (Int.ofNat m) < 256) := by decide +kernel
theorem rv_of {x : Int} (h : 0 ≤ x ∧ x < 256) : rv (rv x) = x ∧ mBy (rv x) := by
  obtain ⟨m, hm, rfl⟩ := byN h
  exact rv_all m hm
theorem put_all : ∀ j < 16, 0 ≤ putL.getD j 0 ∧ putL.getD j 0 < 256 := by decide
theorem put_in (n : Int) : mBy (put n) := put_all _ (by omega)
theorem oI_comm (a b : Int) : oI a b = oI b a := by
  show IntKind.i64.wrap ((BitVec.ofInt 64 a ||| BitVec.ofInt 64 b).toNat : Nat) = IntKind.i64.wrap ((BitVec.ofInt 64 b ||| BitVec.ofInt 64 a).toNat : Nat)
  rw [BitVec.or_comm]
theorem aI_255 (n : Int) : aI n 255 = n % 256 := and_mask64 n 8 (by decide)
theorem aI_65535 (n : Int) : aI n 65535 = n % 65536 := and_mask64 n 16 (by decide)
theorem sh_11 (n : Int) : shrv .i64 n 11 = n / 2048 := shrv64 n 11 (by decide)
/-! ### digits -/
noncomputable def dH (b : Int) : Int := IntKind.i64.wrap (IntKind.i64.wrap (aU (shrv .u8 b 4) 15) - 1)
noncomputable def dL (b : Int) : Int := IntKind.i64.wrap (IntKind.i64.wrap (aU (shrv .u8 b 0) 15) - 1)
theorem dAt_10 (b : Int) : dAt [b] ((0 : Nat) : Int) = dH b := by kernel_rfl
theorem dAt_11 (b : Int) : dAt [b] ((0 + 1 : Nat) : Int) = dL b := by kernel_rfl
theorem dAt_31 (a b c : Int) : dAt [a, b, c] ((1 : Nat) : Int) = dL a := by kernel_rfl
theorem dAt_32 (a b c : Int) : dAt [a, b, c] ((1 + 1 : Nat) : Int) = dH b := by kernel_rfl
theorem dAt_33 (a b c : Int) : dAt [a, b, c] ((1 + 1 + 1 : Nat) : Int) = dL b := by kernel_rfl
theorem dAt_34 (a b c : Int) : dAt [a, b, c] ((1 + 1 + 1 + 1 : Nat) : Int) = dH c := by kernel_rfl
theorem dAt_35 (a b c : Int) : dAt [a, b, c] ((1 + 1 + 1 + 1 + 1 : Nat) : Int) = dL c := by kernel_rfl
theorem goD_t {bs : List Int} {r k : Nat} {n d : Int} (h : dAt bs (k : Int) = d) (hd : 0 ≤ d ∧ d ≤ 9) (hn : 0 ≤ n ∧ n < 1000000) : goD bs (r + 1) k n = goD bs r (k + 1) (10 * n + d) := by
  show (bif okd (dAt bs (k : Int)) then goD bs r (k + 1) (ac n (dAt bs (k : Int))) else (false, n)) = _
  have ho : okd d = true := by
    unfold okd
    rw [dF (by omega), dF (by omega)]
    rfl
  have ha : ac n d = 10 * n + d := by
    unfold ac
    rw [IntKind.wrap_i64, IntKind.wrap_i64]
    omega
  rw [h, ho, ha]
  rfl
theorem two_all : ∀ m < 100, dH (two (Int.ofNat m)) = Int.ofNat (m / 10) ∧ dL (two (Int.ofNat m)) = Int.ofNat (m % 10) := by decide +kernel
theorem two_of {x : Int} (h : 0 ≤ x ∧ x < 100) : dH (two x) = x / 10 ∧ dL (two x) = x % 10 := by
  have := two_all x.toNat (by omega)
  rw [show Int.ofNat x.toNat = x by show ((x.toNat : Nat) : Int) = x; omega] at this
  refine ⟨this.1.trans ?_, this.2.trans ?_⟩
  · show ((x.toNat / 10 : Nat) : Int) = x / 10
    omega
  · show ((x.toNat % 10 : Nat) : Int) = x % 10
    omega
theorem one_all : ∀ m < 10, dL (u8i (IntKind.i64.wrap (Int.ofNat m + 1))) = Int.ofNat m := by decide +kernel
theorem one_of {x : Int} (h : 0 ≤ x ∧ x < 10) : dL (u8i (IntKind.i64.wrap (x + 1))) = x := by
  have := one_all x.toNat (by omega)
  rwa [show Int.ofNat x.toNat = x by show ((x.toNat : Nat) : Int) = x; omega] at this
theorem go2 {x : Int} (h : 0 ≤ x ∧ x < 100) : goD [two x] 2 0 0 = (true, x) := by
  obtain ⟨h1, h2⟩ := two_of h
  rw [goD_t (r := 1) ((dAt_10 _).trans h1) (by omega) (by omega), goD_t (r := 0) ((dAt_11 _).trans h2) (by omega) (by omega)]
  show (true, 10 * (10 * 0 + x / 10) + x % 10) = (true, x)
  rw [show 10 * (10 * 0 + x / 10) + x % 10 = x by omega]
theorem go5 {d : Int} (h : 0 ≤ d ∧ d < 100000) : goD [u8i (IntKind.i64.wrap (IntKind.i64.wrap (d.tdiv 10000) + 1)), two ((IntKind.i64.wrap (d.tdiv 100)).tmod 100), two (d.tmod 100)] 5 1 0 = (true, d) := by
  have e1 : IntKind.i64.wrap (d.tdiv 10000) = d / 10000 := by rw [Int.tdiv_eq_ediv_of_nonneg h.1, IntKind.wrap_i64]; omega
  have e2 : (IntKind.i64.wrap (d.tdiv 100)).tmod 100 = d / 100 % 100 := by
    rw [Int.tdiv_eq_ediv_of_nonneg h.1, IntKind.wrap_i64, Int.tmod_eq_emod_of_nonneg (by omega)]
    omega
  have e3 : d.tmod 100 = d % 100 := Int.tmod_eq_emod_of_nonneg h.1
  rw [e1, e2, e3]
  have h1 := one_of (x := d / 10000) (by omega)
  obtain ⟨h2, h3⟩ := two_of (x := d / 100 % 100) (by omega)
  obtain ⟨h4, h5⟩ := two_of (x := d % 100) (by omega)
  rw [goD_t (r := 4) ((dAt_31 _ _ _).trans h1) (by omega) (by omega), goD_t (r := 3) ((dAt_32 _ _ _).trans h2) (by omega) (by omega), goD_t (r := 2) ((dAt_33 _ _ _).trans h3) (by omega) (by omega), goD_t (r := 1) ((dAt_34 _ _ _).trans h4) (by omega) (by omega), goD_t (r := 0) ((dAt_35 _ _ _).trans h5) (by omega) (by omega)]
  show (true, 10 * (10 * (10 * (10 * (10 * 0 + d / 10000) + d / 100 % 100 / 10) + d / 100 % 100 % 10) + d % 100 / 10) + d % 100 % 10) = (true, d)
  rw [show 10 * (10 * (10 * (10 * (10 * 0 + d / 10000) + d / 100 % 100 / 10) + d / 100 % 100 % 10) + d % 100 / 10) + d % 100 % 10 = d by omega]
theorem vD2 {x : Int} (h : 0 ≤ x ∧ x < 100) : okD [two x] 0 = true ∧ vD [two x] 0 = x := by
  have e : goD [two x] (2 * [two x].length - (0 : Int).toNat) (0 : Int).toNat 0 = (true, x) := go2 h
  have h1 : okD [two x] 0 = true := by unfold okD; rw [e]
  refine ⟨h1, ?_⟩
  unfold vD vaD
  rw [h1, e]
  rfl
theorem vD5 {d : Int} (h : 0 ≤ d ∧ d < 100000) : okD [u8i (IntKind.i64.wrap (IntKind.i64.wrap (d.tdiv 10000) + 1)), two ((IntKind.i64.wrap (d.tdiv 100)).tmod 100), two (d.tmod 100)] 1 = true ∧ vD [u8i (IntKind.i64.wrap (IntKind.i64.wrap (d.tdiv 10000) + 1)), two ((IntKind.i64.wrap (d.tdiv 100)).tmod 100), two (d.tmod 100)] 1 = d := by
  have e : goD [u8i (IntKind.i64.wrap (IntKind.i64.wrap (d.tdiv 10000) + 1)), two ((IntKind.i64.wrap (d.tdiv 100)).tmod 100), two (d.tmod 100)] (2 * [u8i (IntKind.i64.wrap (IntKind.i64.wrap (d.tdiv 10000) + 1)), two ((IntKind.i64.wrap (d.tdiv 100)).tmod 100), two (d.tmod 100)].length - (1 : Int).toNat) (1 : Int).toNat 0 = (true, d) := go5 h
  have h1 : okD [u8i (IntKind.i64.wrap (IntKind.i64.wrap (d.tdiv 10000) + 1)), two ((IntKind.i64.wrap (d.tdiv 100)).tmod 100), two (d.tmod 100)] 1 = true := by unfold okD; rw [e]
  refine ⟨h1, ?_⟩
  unfold vD vaD
  rw [h1, e]
  rfl
/-! ### the offset -/
theorem of_all : ∀ j < 63, (bif aI (shrv .i64 (IntKind.i64.wrap (ofB (decide (Int.ofNat j - 31 < 0)) (Int.ofNat j - 31))) 6) 1 == 1 then IntKind.i64.wrap (0 - aI (shrv .i64 (IntKind.i64.wrap (ofB (decide (Int.ofNat j - 31 < 0)) (Int.ofNat j - 31))) 1) 31) else aI (shrv .i64 (IntKind.i64.wrap (ofB (decide (Int.ofNat j - 31 < 0)) (Int.ofNat j - 31))) 1) 31) = Int.ofNat j - 31 := by decide +kernel
theorem of_of {o : Int} (h : -31 ≤ o ∧ o ≤ 31) : (bif aI (shrv .i64 (IntKind.i64.wrap (ofB (decide (o < 0)) o)) 6) 1 == 1 then IntKind.i64.wrap (0 - aI (shrv .i64 (IntKind.i64.wrap (ofB (decide (o < 0)) o)) 1) 31) else aI (shrv .i64 (IntKind.i64.wrap (ofB (decide (o < 0)) o)) 1) 31) = o := by
  have := of_all (o + 31).toNat (by omega)
  rwa [show Int.ofNat (o + 31).toNat - 31 = o by show (((o + 31).toNat : Nat) : Int) - 31 = o; omega] at this
/-! ### text -/
theorem byteAt_of (A : List Int) (hA : ∀ x ∈ A, 0 ≤ x ∧ x < 256) (k : Nat) (hk : k < A.length) : byteAt (strOfNums A) k = A.getD k 0 := by
  have hx := hA _ (List.getElem_mem hk)
  have e : (strOfNums A).data.getD k 0 = UInt8.ofNat (A.getD k 0).toNat := by
    unfold strOfNums
    simp [Array.getD, hk, List.getD_eq_getElem?_getD]
  unfold byteAt
  rw [e, List.getD_eq_getElem?_getD, List.getElem?_eq_getElem hk]
  show ((UInt8.ofNat (A[k]).toNat).toNat : Int) = A[k]
  rw [UInt8.toNat_ofNat']
  omega
noncomputable def padA (A : List Int) : List Int := A ++ List.replicate (20 - A.length) 32
theorem pad_len (A : List Int) (h : A.length ≤ 20) : (padA A).length = 20 := by
  unfold padA
  rw [List.length_append, List.length_replicate]
  omega
theorem txc_of (A : List Int) (hA : ∀ x ∈ A, 32 ≤ x ∧ x ≤ 127) (k : Nat) (hk : k < 20) : txc (strOfNums A) k = (padA A).getD k 0 := by
  unfold txc padA
  rw [strOfNums_size]
  by_cases h : k < A.length
  · rw [dT (by omega), List.getD_eq_getElem?_getD, List.getElem?_append_left h]
    show byteAt (strOfNums A) k = (A[k]?).getD 0
    rw [byteAt_of A (fun x hx => by have := hA x hx; omega) k h, List.getD_eq_getElem?_getD]
  · rw [dF (by omega), List.getD_eq_getElem?_getD, List.getElem?_append_right (by omega), List.getElem?_replicate]
    rw [if_pos (by omega)]
    rfl
theorem pad_in (A : List Int) (hA : ∀ x ∈ A, 32 ≤ x ∧ x ≤ 127) : ∀ x ∈ padA A, 32 ≤ x ∧ x ≤ 127 := by
  intro x hx
  unfold padA at hx
  rcases List.mem_append.1 hx with h | h
  · exact hA x h
  · rw [(List.mem_replicate.1 h).2]; decide
theorem pad_get (A : List Int) (hA : ∀ x ∈ A, 32 ≤ x ∧ x ≤ 127) (hl : A.length ≤ 20) (k : Nat) (hk : k < 20) : 32 ≤ (padA A).getD k 0 ∧ (padA A).getD k 0 ≤ 127 := by
  have h := pad_len A hl
  rw [List.getD_eq_getElem?_getD, List.getElem?_eq_getElem (by omega)]
  exact pad_in A hA _ (List.getElem_mem _)
theorem fst_none (z : ByteArray) : ∀ (r k : Nat), (∀ j, k ≤ j → j < k + r → badz z j = false) → fst z r k = none
  | 0, _, _ => rfl
  | r + 1, k, h => by
    show (bif badz z k then some k else fst z r (k + 1)) = none
    rw [h k (Nat.le_refl _) (by omega)]
    exact fst_none z r (k + 1) fun j h1 h2 => h j (by omega) (by omega)
theorem okTx_of (A : List Int) (hA : ∀ x ∈ A, 32 ≤ x ∧ x ≤ 127) (hl : A.length ≤ 20) : okTx (strOfNums A) = true := by
  unfold okTx
  rw [strOfNums_size, dF (by omega), fst_none _ 20 0 fun j _ hj => by
    have h := pad_get A hA hl j (by omega)
    unfold badz badC
    rw [txc_of A hA j (by omega), dF (by omega), dF (by omega)]
    rfl]
  rfl
theorem txA_of (A : List Int) (hA : ∀ x ∈ A, 32 ≤ x ∧ x ≤ 127) (hl : A.length ≤ 20) : txA (strOfNums A) 20 = (padA A).map mkO := by
  have h := pad_len A hl
  unfold txA
  refine List.ext_getElem (by rw [List.length_map, List.length_map, List.length_range, h]) fun j h1 h2 => ?_
  rw [List.getElem_map, List.getElem_map, List.getElem_range]
  rw [List.length_map, List.length_range] at h1
  rw [txc_of A hA j h1, List.getD_eq_getElem?_getD, List.getElem?_eq_getElem (by omega)]
  rfl
end Go.Proofs.YthjdlanmfiofdaaDoor.sv

namespace Go.Proofs.YthjdlanmfiofdaaDoor.sv
open Go Go.Nx Go.Proofs.YthjdlanmfiofdaaDoor.pk Go.Proofs.YthjdlanmfiofdaaDoor.ln Go.Proofs.YthjdlanmfiofdaaDoor.hd Go.Proofs.YthjdlanmfiofdaaDoor.lb

section
variable (n dy tm of : Int)
noncomputable def H19 : List Int := [put (aI (fb n) 15), put (shrv .i64 (fb n) 4), put (aI (fe n) 15), put (nb3 (fe n) (aI (aI (fa n) 7) 1)), put (aI (shrv .i64 (fe n) 8) 15), put (nb5 (fe n) (shrv .i64 (aI (fa n) 7) 1)), rv (u8i (shrv .i64 (fn n) 8)), rv (u8i (fn n)), ofB (decide (fo of < 0)) (fo of), u8i (IntKind.i64.wrap (IntKind.i64.wrap ((fd dy).tdiv 10000) + 1)), two ((IntKind.i64.wrap ((fd dy).tdiv 100)).tmod 100), two ((fd dy).tmod 100), two (fh tm), two (fm tm), two (fs tm), 0, 0, 0, 0]
noncomputable def dS (T : List Int) : List Int := H19 n dy tm of ++ T
theorem L_eq (A : List Int) (hA : ∀ x ∈ A, 32 ≤ x ∧ x ≤ 127) (hl : A.length ≤ 20) : L0 n dy tm of (strOfNums A) = 21 :: 234 :: put 0 :: dS n dy tm of ((padA A).map mkO) := by
  unfold L0 LB
  rw [txA_of A hA hl]
  rfl
theorem fa_eq : fa n = n % 1073741824 % 8 + 1 := by
  unfold fa
  rw [aI_7, IntKind.wrap_i64]
  omega
theorem fb_eq : fb n = n % 1073741824 / 8 % 256 := by unfold fb; rw [sh_3, aI_255]
theorem fe_in : 0 ≤ fe n ∧ fe n < 16384 ∧ fe n / 128 % 2 = 0 := any_in _
theorem fn_eq : fn n = n % 1073741824 % 65536 := by unfold fn; rw [aI_65535]
theorem fo_eq : fo of = of % 63 - 31 := by unfold fo; rw [IntKind.wrap_i64]; omega
theorem fh_eq : fh tm = tm % 86400 / 3600 := by
  unfold fh
  rw [Int.tdiv_eq_ediv_of_nonneg (by omega), IntKind.wrap_i64]
  omega
theorem fm_eq : fm tm = tm % 86400 / 60 % 60 := by
  unfold fm
  rw [Int.tdiv_eq_ediv_of_nonneg (by omega), IntKind.wrap_i64, Int.tmod_eq_emod_of_nonneg (by omega)]
  omega
theorem fs_eq : fs tm = tm % 86400 % 60 := by unfold fs; rw [Int.tmod_eq_emod_of_nonneg (by omega)]
theorem mag_8 : ∀ g < 8, magOf ((Int.ofNat g + 1) % 8) = Int.ofNat g + 1 := by decide +kernel
theorem mag_of {a : Int} (h : 1 ≤ a ∧ a ≤ 8) : magOf (a % 8) = a := by
  have := mag_8 (a - 1).toNat (by omega)
  rwa [show Int.ofNat (a - 1).toNat + 1 = a by show (((a - 1).toNat : Nat) : Int) + 1 = a; omega] at this
theorem o_in : 0 ≤ aI (aI (fa n) 7) 1 ∧ aI (aI (fa n) 7) 1 < 2 := by rw [aI_1]; omega
theorem t_in : 0 ≤ shrv .i64 (aI (fa n) 7) 1 ∧ shrv .i64 (aI (fa n) 7) 1 < 4 := by rw [sh_1, aI_7]; omega
variable (T : List Int)
theorem nb_3 : nb (dS n dy tm of T) 3 = fe n / 16 % 8 + aI (aI (fa n) 7) 1 * 8 := by
  have h : nb (dS n dy tm of T) 3 = nb3 (fe n) (aI (aI (fa n) 7) 1) % 16 := getN_put _
  have ho := o_in n
  rw [h, nb3_eq _ _ ho]
  omega
theorem nb_5 : nb (dS n dy tm of T) 5 = fe n / 4096 % 4 + shrv .i64 (aI (fa n) 7) 1 * 4 := by
  have h : nb (dS n dy tm of T) 5 = nb5 (fe n) (shrv .i64 (aI (fa n) 7) 1) % 16 := getN_put _
  have ht := t_in n
  rw [h, nb5_eq _ _ ht]
  omega
theorem mg_back : mgV (dS n dy tm of T) = fa n := by
  have ho := o_in n
  have ht := t_in n
  have ha := fa_eq n
  unfold mgV
  rw [nb_3, nb_5, sh_3, sh_2, show (fe n / 16 % 8 + aI (aI (fa n) 7) 1 * 8) / 8 = aI (aI (fa n) 7) 1 by omega, show (fe n / 4096 % 4 + shrv .i64 (aI (fa n) 7) 1 * 4) / 4 = shrv .i64 (aI (fa n) 7) 1 by omega, or1 _ _ ho.1 ho.2 ht.1 (by omega), aI_1, sh_1, aI_7, show fa n % 8 % 2 + fa n % 8 / 2 * 2 = fa n % 8 by omega]
  exact mag_of (by omega)
theorem pg_back : pgV (dS n dy tm of T) = fb n := by
  have h0 : nb (dS n dy tm of T) 0 = aI (fb n) 15 % 16 := getN_put _
  have h1 : nb (dS n dy tm of T) 1 = shrv .i64 (fb n) 4 % 16 := getN_put _
  have hb := fb_eq n
  show pageOf (nb (dS n dy tm of T) 0) (nb (dS n dy tm of T) 1) = _
  rw [h0, h1, aI_15, sh_4, show fb n % 16 % 16 = fb n % 16 by omega]
  exact page_back (fb n) (by omega)
theorem sb_back : sbV (dS n dy tm of T) = fe n := by
  have h2 : nb (dS n dy tm of T) 2 = aI (fe n) 15 % 16 := getN_put _
  have h4 : nb (dS n dy tm of T) 4 = aI (shrv .i64 (fe n) 8) 15 % 16 := getN_put _
  show subOf (nb (dS n dy tm of T) 2) (nb (dS n dy tm of T) 3) (nb (dS n dy tm of T) 4) (nb (dS n dy tm of T) 5) = _
  rw [h2, h4, nb_3, nb_5, aI_15, sh_8, aI_15, show fe n % 16 % 16 = fe n % 16 by omega, show fe n / 256 % 16 % 16 = fe n / 256 % 16 by omega]
  exact sub_back (fe n) _ _ (fe_in n)
theorem nw_back : nwV (dS n dy tm of T) = fn n := by
  have hn := fn_eq n
  have h6 : (dS n dy tm of T).getD 6 0 = rv (u8i (shrv .i64 (fn n) 8)) := rfl
  have h7 : (dS n dy tm of T).getD 7 0 = rv (u8i (fn n)) := rfl
  have e1 : u8i (shrv .i64 (fn n) 8) = fn n / 256 := by unfold u8i; rw [sh_8, IntKind.wrap_u8]; omega
  have e2 : u8i (fn n) = fn n % 256 := by unfold u8i; rw [IntKind.wrap_u8]
  unfold nwV
  rw [h6, h7, e1, e2, (rv_of (x := fn n / 256) (by omega)).1, (rv_of (x := fn n % 256) (by omega)).1, show IntKind.i64.wrap (fn n / 256) = fn n / 256 by rw [IntKind.wrap_i64]; omega, show IntKind.i64.wrap (fn n % 256) = fn n % 256 by rw [IntKind.wrap_i64]; omega, oI_comm, or8 _ _ (by omega) (by omega) (by omega) (by omega)]
  omega
theorem of_back : ofS (dS n dy tm of T) = fo of := by
  have h := fo_eq of
  exact of_of (o := fo of) (by omega)
theorem dy_back : okD [gD (dS n dy tm of T) 9, gD (dS n dy tm of T) 10, gD (dS n dy tm of T) 11] 1 = true ∧ dyV (dS n dy tm of T) = fd dy := vD5 (d := fd dy) (by unfold fd; omega)
theorem hr_back : okD [gD (dS n dy tm of T) 12] 0 = true ∧ hrV (dS n dy tm of T) = fh tm := vD2 (x := fh tm) (by have := fh_eq tm; omega)
theorem mi_back : okD [gD (dS n dy tm of T) 13] 0 = true ∧ miV (dS n dy tm of T) = fm tm := vD2 (x := fm tm) (by have := fm_eq tm; omega)
theorem se_back : okD [gD (dS n dy tm of T) 14] 0 = true ∧ seV (dS n dy tm of T) = fs tm := vD2 (x := fs tm) (by have := fs_eq tm; omega)
theorem fair_t : fairV (fd dy) (fh tm) (fm tm) (fs tm) = true := by
  have h1 := fh_eq tm
  have h2 := fm_eq tm
  have h3 := fs_eq tm
  unfold fairV fd
  rw [dT (by omega), dT (by omega), dT (by omega), dT (by omega), dT (by omega), dT (by omega), dT (by omega), dT (by omega)]
  rfl
theorem clk_t : clkG (gD (dS n dy tm of T)) = true := by
  have h1 := dy_back n dy tm of T
  have h2 := hr_back n dy tm of T
  have h3 := mi_back n dy tm of T
  have h4 := se_back n dy tm of T
  have e1 : vD [gD (dS n dy tm of T) 9, gD (dS n dy tm of T) 10, gD (dS n dy tm of T) 11] 1 = fd dy := h1.2
  have e2 : vD [gD (dS n dy tm of T) 12] 0 = fh tm := h2.2
  have e3 : vD [gD (dS n dy tm of T) 13] 0 = fm tm := h3.2
  have e4 : vD [gD (dS n dy tm of T) 14] 0 = fs tm := h4.2
  unfold clkG
  rw [h1.1, h2.1, h3.1, h4.1, e1, e2, e3, e4, fair_t]
  rfl
theorem all6_t : all6 (dS n dy tm of T) = true := by
  show (getB (put _) && (getB (put _) && (getB (put _) && (getB (put _) && (getB (put _) && (getB (put _) && true)))))) = true
  rw [getB_put, getB_put, getB_put, getB_put, getB_put, getB_put]
  rfl
theorem ofB_in (b : Bool) (o : Int) : mBy (ofB b o) := by
  unfold ofB
  cases b with
  | true => exact oU_in _ _
  | false => exact u8i_in _
theorem H19_in : ∀ x ∈ H19 n dy tm of, mBy x := by
  intro x hx
  unfold H19 at hx
  simp only [List.mem_cons, List.not_mem_nil, or_false] at hx
  rcases hx with rfl | rfl | rfl | rfl | rfl | rfl | rfl | rfl | rfl | rfl | rfl | rfl | rfl | rfl | rfl | rfl | rfl | rfl | rfl
  · exact put_in _
  · exact put_in _
  · exact put_in _
  · exact put_in _
  · exact put_in _
  · exact put_in _
  · exact (rv_of (u8i_in _)).2
  · exact (rv_of (u8i_in _)).2
  · exact ofB_in _ _
  · exact u8i_in _
  · exact u8i_in _
  · exact u8i_in _
  · exact u8i_in _
  · exact u8i_in _
  · exact u8i_in _
  · exact ⟨by decide, by decide⟩
  · exact ⟨by decide, by decide⟩
  · exact ⟨by decide, by decide⟩
  · exact ⟨by decide, by decide⟩
theorem part_T (hT : T.length = 20) : partL (dS n dy tm of T) 19 20 = T := by
  have e := range_n hT
  have e2 : partL (dS n dy tm of T) 19 20 = (List.range 20).map fun i => T.getD i 0 := by
    unfold partL
    refine List.map_congr_left fun i _ => ?_
    show (H19 n dy tm of ++ T).getD (19 + i) 0 = T.getD i 0
    rw [List.getD_eq_getElem?_getD, List.getElem?_append_right (by show 19 ≤ 19 + i; omega), List.getD_eq_getElem?_getD]
    show (T[19 + i - 19]?).getD 0 = _
    rw [show 19 + i - 19 = i by omega]
  rw [e2]
  exact e.symm
end
theorem DS_eq (a b c : Int) (ds : List Int) : DS (a :: b :: c :: ds) = ds := by
  unfold DS
  show List.take ds.length (List.drop 0 ds) = ds
  rw [List.drop_zero, List.take_length]
theorem okBt_t (n dy tm of : Int) (A : List Int) (hA : ∀ x ∈ A, 32 ≤ x ∧ x ≤ 127) (hl : A.length ≤ 20) : mBt n dy tm of (strOfNums A) := by
  have h1 := fa_eq n
  have h2 := fb_eq n
  have h3 := fn_eq n
  have h4 := fo_eq of
  have hf : fairB (fa n) (fb n) (fe n) = true := fair_any _ _ _ (by omega) (by omega)
  unfold mBt okBt
  rw [okTx_of A hA hl, hf, dF (by omega), dF (by omega), dF (by omega), dF (by omega), fair_t]
  rfl
theorem sgn_map (A : List Int) (hA : ∀ x ∈ A, 32 ≤ x ∧ x ≤ 127) : (A.map mkO).map sgn = A := by
  rw [List.map_map]
  conv => rhs; rw [← List.map_id A]
  exact List.map_congr_left fun x hx => (sg_of (hA x hx)).1
theorem rest_in {n dy tm of a1 : Int} {A : List Int} {R : Out → Prop} (hA : ∀ x ∈ A, 32 ≤ x ∧ x ≤ 127) (hl : A.length ≤ 20) (h : R (oB true)) : restB n dy tm of (L0 n dy tm of (strOfNums A)) (padA A) a1 R := by
  rw [L_eq n dy tm of A hA hl]
  obtain ⟨k, hk, ek⟩ : ∃ k : Nat, k < 20 ∧ a1 % 20 = (k : Int) := ⟨(a1 % 20).toNat, by omega, by omega⟩
  have hp : pB a1 = ((22 + k : Nat) : Int) := by unfold pB; rw [ek, IntKind.wrap_i64]; omega
  have hpn : 0 + (pB a1).toNat = 22 + k := by omega
  have hpl := pad_len A hl
  have hpg := pad_get A hA hl k hk
  have hpi := pad_in A hA
  generalize hP : padA A = P at hpl hpg hpi
  have hlen : (21 :: 234 :: put 0 :: dS n dy tm of (P.map mkO)).length = 42 := by
    show (P.map mkO).length + 19 + 1 + 1 + 1 = 42
    rw [List.length_map, hpl]
  have hT : TT (21 :: 234 :: put 0 :: dS n dy tm of (P.map mkO)) a1 = 21 :: 234 :: put 0 :: dS n dy tm of ((P.map mkO).set k (x8 (mkO (P.getD k 0)) 8)) := by
    have hg : (21 :: 234 :: put 0 :: dS n dy tm of (P.map mkO)).getD (22 + k) 0 = mkO (P.getD k 0) := by
      rw [show 22 + k = 19 + k + 1 + 1 + 1 by omega]
      show (H19 n dy tm of ++ P.map mkO).getD (19 + k) 0 = _
      rw [List.getD_eq_getElem?_getD, List.getElem?_append_right (by show 19 ≤ 19 + k; omega)]
      show ((P.map mkO)[19 + k - 19]?).getD 0 = _
      rw [show 19 + k - 19 = k by omega, List.getElem?_map, List.getD_eq_getElem?_getD, List.getElem?_eq_getElem (by omega)]
      rfl
    unfold TT
    rw [hpn, hg, setI_set, List.drop_zero, List.take_of_length_le (by rw [List.length_set, hlen]; exact Nat.le_refl _)]
    rw [show 22 + k = 19 + k + 1 + 1 + 1 by omega]
    show 21 :: 234 :: put 0 :: (H19 n dy tm of ++ P.map mkO).set (19 + k) _ = _
    rw [List.set_append_right _ _ (by show 19 ≤ 19 + k; omega)]
    show 21 :: 234 :: put 0 :: (H19 n dy tm of ++ (P.map mkO).set (19 + k - 19) _) = _
    rw [show 19 + k - 19 = k by omega]
    rfl
  have hS : List.take 20 (List.drop 0 (SS P a1)) = P.set k 32 := by
    unfold SS
    rw [ek, show 0 + ((k : Int)).toNat = k by omega, setI_set, List.drop_zero, List.take_of_length_le (by rw [List.length_set, hpl]; exact Nat.le_refl _)]
  have hX : ∀ X : Prop, X → ix22 (21 :: 234 :: put 0 :: dS n dy tm of (P.map mkO)) a1 X := fun X hX => selT (dT (by omega)) (selT (dT (by omega)) (selT (dT (by rw [hlen]; omega)) hX))
  refine ⟨⟨by decide, by decide⟩, hX _ (hX _ (selT (dT (by omega)) (selT (dT (by omega)) (selT (dT (by omega)) (selT (dT ?_) ?_)))))⟩
  · unfold SS
    rw [setI_set, List.length_set]
    omega
  unfold endB
  rw [hT, hS, DS_eq]
  generalize hY : (P.map mkO).set k (x8 (mkO (P.getD k 0)) 8) = Y
  have hYl : Y.length = 20 := by rw [← hY, List.length_set, List.length_map, hpl]
  have hYi : ∀ x ∈ Y, mBy x := by
    intro x hx
    rw [← hY] at hx
    rcases List.mem_or_eq_of_mem_set hx with hx | rfl
    · rw [List.mem_map] at hx
      obtain ⟨c, _, rfl⟩ := hx
      exact mkO_in c
    · exact x8_in _ _
  have hYs : txV (dS n dy tm of Y) = strOfNums (P.set k 32) := by
    unfold txV
    rw [part_T n dy tm of Y hYl, ← hY, List.map_set, sgn_map P hpi, (sg_of hpg).2]
  have hi : infD (dS n dy tm of Y) = infW n dy tm of (strOfNums (P.set k 32)) := by
    unfold infD infW
    rw [mg_back, pg_back, sb_back, nw_back, of_back, (dy_back n dy tm of Y).2, (hr_back n dy tm of Y).2, (mi_back n dy tm of Y).2, (se_back n dy tm of Y).2, hYs]
  refine ⟨⟨?_, ?_, ?_, ⟨?_, ?_⟩, ?_⟩, ⟨?_, all6_t n dy tm of Y, clk_t n dy tm of Y, ?_, ?_⟩, ⟨hi, ?_⟩, h⟩
  · show Y.length + 19 + 1 + 1 + 1 = 42
    omega
  · show getB 21 = true
    decide +kernel
  · show getB 234 = true
    decide +kernel
  · show kindF (rowOf (getN 21) (getN 234)) ≠ 0
    decide +kernel
  · show rowOf (getN 21) (getN 234) ≥ 26
    decide +kernel
  · exact getB_put 0
  · show okK (magOf (getN 21)) (kindF (rowOf (getN 21) (getN 234))) (getN (put 0)) = true
    decide +kernel
  · show Y.length + 19 = 39
    omega
  · intro x hx
    rcases List.mem_append.1 hx with hx | hx
    · exact H19_in n dy tm of x hx
    · exact hYi x hx
  · exact ⟨_, _, _, _, _, _, _, _, _, _, rfl⟩
/-! ### the law -/
theorem fS_of {x : Int} (h : 0 ≤ x ∧ x < 256) : 32 ≤ fS x ∧ fS x ≤ 127 := by
  obtain ⟨m, hm, rfl⟩ := byN h
  exact fS_all m hm
theorem mN_in {m : Int} (h : 0 < m ∧ m < 4611686018427387904) : mN m := h
noncomputable def tBack : Con := fun args regs => match args, regs with
  | [.c (.i .i64 _), .c (.i .i64 _), .c (.i .i64 _), .c (.i .i64 _), .c (.l .u8 tx), .c (.i .i64 _)], [] => .must (∀ x ∈ tx, 0 ≤ x ∧ x < 256) (.ret (oB true))
  | _, _ => .fail
theorem back_in {n dy tm of a1 : Int} {tx : List Int} {R : Out → Prop} (hb : ∀ x ∈ tx, 0 ≤ x ∧ x < 256) (h : R (oB true)) : Box ((t_bkS [.c (.i .i64 n), .c (.i .i64 dy), .c (.i .i64 tm), .c (.i .i64 of), .c (.l .u8 tx), .c (.i .i64 a1)] []).run R) ∨ Box ((t_bkN [.c (.i .i64 n), .c (.i .i64 dy), .c (.i .i64 tm), .c (.i .i64 of), .c (.l .u8 tx), .c (.i .i64 a1)] []).run R) := by
  cases tx with
  | nil =>
    have hA : ∀ x ∈ ([] : List Int), 32 ≤ x ∧ x ≤ 127 := fun x hx => by cases hx
    exact .inr (Box.of_eq (bkN_tree n dy tm of a1 R) ⟨⟨by decide, by decide⟩, ⟨by decide, by decide⟩, ⟨by decide, by decide⟩, ⟨by decide, by decide⟩, okBt_t n dy tm of [] hA (by decide), rest_in (A := []) hA (by decide) h⟩)
  | cons t ts =>
    refine .inl (Box.of_eq (bkS_tree n dy tm of (t :: ts) a1 R) ?_)
    refine sel_by (fun _ => h) fun hl => ?_
    have hl : (t :: ts).length ≤ 20 := by omega
    have h0 : 0 < (t :: ts).length := Nat.succ_pos _
    have hm : ((t :: ts).map fS).length = (t :: ts).length := List.length_map ..
    have hA : ∀ x ∈ (t :: ts).map fS, 32 ≤ x ∧ x ≤ 127 := fun x hx => by
      rw [List.mem_map] at hx
      obtain ⟨y, hy, rfl⟩ := hx
      exact fS_of (hb y hy)
    have ez : ztx (t :: ts) = strOfNums ((t :: ts).map fS) := by
      unfold ztx
      rw [List.drop_zero, ← hm, List.take_length]
    have ep : padT (t :: ts) = padA ((t :: ts).map fS) := by
      unfold padT padA
      rw [hm]
    refine ⟨⟨by decide, by decide⟩, ⟨by decide, by decide⟩, ⟨by decide, by decide⟩, ⟨by decide, by decide⟩, ⟨rfl, h0, hl⟩, selT (dT (by omega)) ?_⟩
    rw [ez, ep]
    exact ⟨okBt_t n dy tm of _ hA (by omega), ⟨hm, hl⟩, rest_in hA (by omega) h⟩
theorem Known_or {P : Program} {gl : List Nat} {f : FuncId} {A B T : Con} (ha : Known P gl f A) (hb : Known P gl f B) (h : ∀ args regs R, (T args regs).run R → Box ((A args regs).run R) ∨ Box ((B args regs).run R)) : Known P gl f T :=
  ⟨ha.goes, fun args regs R hR => (h args regs R hR).elim (fun x => ha.sound args regs R x.out) fun x => hb.sound args regs R x.out⟩
set_option maxRecDepth 100000 in
theorem kBack : Known Tryd.prog GL 12 tBack := by
  refine Known_or k_bkS k_bkN fun args regs R h => ?_
  unfold tBack at h
  split at h
  case h_2 => exact h.elim
  exact back_in h.1 h.2
theorem wf_u8 {n : Int} (h : (Lit.int .u8 n).wf = true) : 0 ≤ n ∧ n < 256 := by
  simp only [Lit.wf, Bool.and_eq_true, decide_eq_true_eq] at h
  have h1 : IntKind.u8.min = 0 := rfl
  have h2 : IntKind.u8.max = 255 := rfl
  rw [h1, h2] at h
  omega
def shsB : List Sh := [.i .i64, .i .i64, .i .i64, .i .i64, .row .u8, .i .i64]
theorem back_law (xs : List NV) (h : R2 ShOk shsB xs) : Holds (tBack xs []) fun o => o.res = .v (.c (.b true)) := by
  cases h with
  | cons h1 h =>
    cases h with
    | cons h2 h =>
      cases h with
      | cons h3 h =>
        cases h with
        | cons h4 h =>
          cases h with
          | cons h5 h =>
            cases h with
            | cons h6 h =>
              cases h
              cases h1
              cases h2
              cases h3
              cases h4
              cases h6
              cases h5 with
              | @row _ tx hb => exact ⟨⟨fun x hx => wf_u8 (hb x hx), rfl⟩⟩
end Go.Proofs.YthjdlanmfiofdaaDoor.sv
