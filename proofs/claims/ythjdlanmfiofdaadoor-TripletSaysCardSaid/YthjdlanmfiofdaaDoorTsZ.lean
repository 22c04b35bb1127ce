/-
  TripletSays: the law.
-/
import Derived.Test.YthjdlanmfiofdaaDoorTsY
import Derived.Test.YthjdlanmfiofdaaDoorEng24
namespace Go.Proofs.YthjdlanmfiofdaaDoor.ts
open Go Go.Nx Go.Proofs.YthjdlanmfiofdaaDoor.pk Go.Proofs.YthjdlanmfiofdaaDoor.ln Go.Proofs.YthjdlanmfiofdaaDoor.hd Go.Proofs.YthjdlanmfiofdaaDoor.tr

noncomputable abbrev fTSays := Tryd.f10
noncomputable def c_s0 : FuncId → Option Con := conOf [(39, tSameTT)]
theorem kc_s0 : ∀ f T, c_s0 f = some T → Known Tryd.prog GL f T := (Knowns.cons kSameTT .nil).get
noncomputable def X_s0 : Cx := { P := Tryd.prog, con := c_s0, glob := GL, m := 0, loops := [] }
noncomputable def rP (a b c : Int) : Option Reg := some ⟨3, 66, .cells [.i .i64 a, .i .i64 b, .i .i64 c]⟩
noncomputable def sS0 (a b c mg rw cd n : Int) (L X B Y : List (List Sc)) (ok : Bool) (q1 q2 q3 : Nat) (i : Int) : St := { fr := frame 182 [(1, .v (.c (.i .i64 mg))), (2, .v (.c (.i .i64 rw))), (3, .v (.c (.i .i64 cd))), (4, .v (.c (.lr [.i .i64, .i .i64, .i .i64] L))), (6, .v (.c (.i .i64 n))), (12, .v (.c (.p 0 0 0))), (15, .v (.c (.b ok))), (18, .v (.c (.h 1 0 q1))), (19, .v (.c (.h 2 0 q2))), (21, .v (.c (.h 3 0 q3))), (28, .v (.c (.i .i64 i)))], rg := [rP a b c, rT X, rG B, rT Y] }
noncomputable def dS0 (a b c mg rw cd n : Int) (L : List (List Sc)) (ok : Bool) : St := { fr := frame 182 [(1, .v (.c (.i .i64 mg))), (2, .v (.c (.i .i64 rw))), (3, .v (.c (.i .i64 cd))), (4, .v (.c (.lr [.i .i64, .i .i64, .i .i64] L))), (6, .v (.c (.i .i64 n))), (12, .v (.c (.p 0 0 0))), (15, .v (.c (.b ok)))], rg := [rP a b c] }
noncomputable def inS (X : List (List Sc)) (i : Int) (K : Prop) : Prop := sel (decide (0 ≤ i)) (sel (decide (i < ((13 : Nat) : Int))) (sel (decide (0 + i.toNat < X.length)) K False) False) False
def vS (X : List (List Sc)) (j c : Nat) : Int := ((X.getD j []).getD c (Sc.i 0)).n
def bS (B : List (List Sc)) (j : Nat) : Bool := ((B.getD j []).getD 0 (Sc.i 0)).t
noncomputable def secS (X B : List (List Sc)) (i : Int) (N : Prop) : Prop := inS B i (sel (!bS B (0 + i.toNat)) (inS X i ((vS X (0 + i.toNat) 0 = 0 ∧ vS X (0 + i.toNat) 1 = 0 ∧ vS X (0 + i.toNat) 2 = 0) ∧ N)) N)
theorem round_s0 (a b c mg rw cd n : Int) (L X B Y : List (List Sc)) (ok : Bool) (i : Int) (R : RO → Prop) : (roundT X_s0 0 [1, 2, 3, 4, 6, 12, 15, 18, 19, 21, 28] [1, 2, 3, 4, 6, 12, 14, 15] (bodyLoop fTSays 0) (sS0 a b c mg rw cd n L X B Y ok 13 13 13 i)).run R =
    sel (decide (i < 13)) (inS B i (sel (bS B (0 + i.toNat)) (inS X i (inS Y i ((vS X (0 + i.toNat) 0 = vS Y (0 + i.toNat) 0 ∧ vS X (0 + i.toNat) 1 = vS Y (0 + i.toNat) 1 ∧ vS X (0 + i.toNat) 2 = vS Y (0 + i.toNat) 2) ∧ secS X B i (R (.next (sS0 a b c mg rw cd n L X B Y ok 13 13 13 (IntKind.i64.wrap (i + 1)))))))) (secS X B i (R (.next (sS0 a b c mg rw cd n L X B Y ok 13 13 13 (IntKind.i64.wrap (i + 1)))))))) (R (.done .normal (dS0 a b c mg rw cd n L ok))) := by kernel_rfl
def alikeS (X B Y : List (List Sc)) (j : Nat) : Prop := (bS B j = true → ∀ c, c < 3 → vS X j c = vS Y j c) ∧ (bS B j = false → ∀ c, c < 3 → vS X j c = 0)
noncomputable def pS0 : List Pat := pats 182 [(1, .i .i64), (2, .i .i64), (3, .i .i64), (4, .lr [.i .i64, .i .i64, .i .i64]), (6, .i .i64), (12, .p 0 0 0), (15, .b), (18, .h 1 0), (19, .h 2 0), (21, .h 3 0), (28, .i .i64)]
def rS0 : List RPat := [.cells 3 66 [.i .i64, .i .i64, .i .i64], .recs 3 66 [.i .i64, .i .i64, .i .i64], .recs 1 4 [.b], .recs 3 66 [.i .i64, .i .i64, .i .i64]]
noncomputable def lS0 : List Leaf × List (List Leaf) → Tr (NExit × St) := fun x => match x with
  | ([.i mg, .i rw, .i cd, .r L, .i n, .b ok, .n q1, .n q2, .n q3, .i i], [[.i a, .i b, .i c], [.r X], [.r B], [.r Y]]) => .must ((q1 = 13 ∧ q2 = 13 ∧ q3 = 13) ∧ (X.length = 13 ∧ B.length = 13 ∧ Y.length = 13) ∧ 0 ≤ i ∧ i ≤ 13 ∧ ∀ j : Nat, i ≤ (j : Int) → j < 13 → alikeS X B Y j) (.ret (.normal, dS0 a b c mg rw cd n L ok))
  | _ => .fail
def muS0 : List Leaf × List (List Leaf) → Nat := fun x => match x with
  | ([.i _, .i _, .i _, .r _, .i _, .b _, .n _, .n _, .n _, .i i], _) => (13 - i).toNat
  | _ => 0
def mustS (X B Y : List (List Sc)) (i : Int) : Prop := (X.length = 13 ∧ B.length = 13 ∧ Y.length = 13) ∧ 0 ≤ i ∧ i ≤ 13 ∧ ∀ j : Nat, i ≤ (j : Int) → j < 13 → alikeS X B Y j
set_option maxRecDepth 100000 in
theorem lS0_inv {x : List Leaf × List (List Leaf)} {R : NExit × St → Prop} (h : (lS0 x).run R) : ∃ (mg rw cd n a b c i : Int) (L X B Y : List (List Sc)) (ok : Bool), x = ([.i mg, .i rw, .i cd, .r L, .i n, .b ok, .n 13, .n 13, .n 13, .i i], [[.i a, .i b, .i c], [.r X], [.r B], [.r Y]]) ∧ mustS X B Y i ∧ R (.normal, dS0 a b c mg rw cd n L ok) := by
  unfold lS0 at h
  split at h
  case h_2 => exact h.elim
  have h1 := h.1
  have h2 := h.2
  clear h
  obtain ⟨⟨rfl, rfl, rfl⟩, h1⟩ := h1
  exact ⟨_, _, _, _, _, _, _, _, _, _, _, _, _, rfl, h1, h2⟩
theorem mk_s0 (a b c mg rw cd n : Int) (L X B Y : List (List Sc)) (ok : Bool) (i : Int) : mkSt pS0 rS0 ([.i mg, .i rw, .i cd, .r L, .i n, .b ok, .n 13, .n 13, .n 13, .i i], [[.i a, .i b, .i c], [.r X], [.r B], [.r Y]]) = sS0 a b c mg rw cd n L X B Y ok 13 13 13 i := by kernel_rfl
set_option maxRecDepth 100000 in
theorem loop_s0 : LOk Tryd.prog GL 0 0 (bodyLoop fTSays 0) (sumP pS0 rS0 lS0) := by
  refine sumP_ok (X := X_s0) kc_s0 mixed (LAll.none (by kernel_rfl)) [1, 2, 3, 4, 6, 12, 15, 18, 19, 21, 28] [1, 2, 3, 4, 6, 12, 14, 15] _ _ _ muS0 ?_
  intro x R h
  obtain ⟨mg, rw, cd, n, a, b, c, i, L, X, B, Y, ok, rfl, h1, h2⟩ := lS0_inv h
  clear h
  have hX := h1.1.1
  have hB := h1.1.2.1
  have hY := h1.1.2.2
  have hi0 := h1.2.1
  have hi := h1.2.2.1
  have hall := h1.2.2.2
  clear h1
  rw [mk_s0, round_s0]
  refine sel_by (fun hlt => ?_) fun hge => h2
  have w2 : IntKind.i64.wrap (i + 1) = i + 1 := by rw [IntKind.wrap_i64]; omega
  have hin : ∀ (Z : List (List Sc)) (K : Prop), Z.length = 13 → K → inS Z i K := fun Z K hZ hK => selT (dT hi0) (selT (dT (by omega)) (selT (dT (by omega)) hK))
  have go : ∃ y, sS0 a b c mg rw cd n L X B Y ok 13 13 13 (i + 1) = mkSt pS0 rS0 y ∧ muS0 y < muS0 ([.i mg, .i rw, .i cd, .r L, .i n, .b ok, .n 13, .n 13, .n 13, .i i], [[.i a, .i b, .i c], [.r X], [.r B], [.r Y]]) ∧ (lS0 y).run R :=
    ⟨([.i mg, .i rw, .i cd, .r L, .i n, .b ok, .n 13, .n 13, .n 13, .i (i + 1)], [[.i a, .i b, .i c], [.r X], [.r B], [.r Y]]), (mk_s0 a b c mg rw cd n L X B Y ok (i + 1)).symm, by show (13 - (i + 1)).toNat < (13 - i).toNat; omega, ⟨⟨⟨rfl, rfl, rfl⟩, ⟨hX, hB, hY⟩, by omega, by omega, fun j hj => hall j (by omega)⟩, h2⟩⟩
  have hj := hall i.toNat (by omega) (by omega)
  rw [w2, Nat.zero_add]
  refine hin B _ hB ?_
  unfold secS
  rw [Nat.zero_add]
  cases hq : bS B i.toNat with
  | true =>
    have hv := hj.1 hq
    exact selT rfl (hin X _ hX (hin Y _ hY ⟨⟨hv 0 (by decide), hv 1 (by decide), hv 2 (by decide)⟩, hin B _ hB (selF rfl go)⟩))
  | false =>
    have hv := hj.2 hq
    exact selF rfl (hin B _ hB (selT rfl (hin X _ hX ⟨⟨hv 0 (by decide), hv 1 (by decide), hv 2 (by decide)⟩, go⟩)))
/-! ### packets by classes -/
noncomputable def raB (bs : List Int) : Int := rowOf (getN (bs.getD 0 0)) (getN (bs.getD 1 0))
noncomputable def gaB (bs : List Int) : Bool := getB (bs.getD 0 0) && getB (bs.getD 1 0)
noncomputable def gcB (bs : List Int) : Bool := getB ((bs.drop 2).getD 0 0)
noncomputable def ncB (bs : List Int) : Int := getN ((bs.drop 2).getD 0 0)
noncomputable def mgB (bs : List Int) : Int := magOf (getN (bs.getD 0 0))
/-- What bytes are: no packet, of no kind, triplets, another packet. -/
noncomputable def clsQ (bs : List Int) : Nat := bif gaB bs then (bif decide (kindF (raB bs) = 0) then 1 else bif decide (raB bs ≥ 26) then (bif gcB bs then (bif hasB (kindF (raB bs)) then 2 else 3) else 0) else 3) else 0
def l39 (bs : List Int) : List Int := (List.range 39).map fun i => bs.getD (3 + i) 0
theorem l39_eq (bs : List Int) (h : bs.length = 42) : (bs.drop 2).drop 1 = l39 bs := by
  rw [List.drop_drop]
  refine List.ext_getElem? fun j => ?_
  unfold l39
  rw [List.getElem?_drop, List.getElem?_map]
  by_cases hj : j < 39
  · rw [List.getElem?_range hj, Option.map_some, List.getD_eq_getElem?_getD, List.getElem?_eq_getElem (show 2 + 1 + j < bs.length by omega)]
    rfl
  · rw [List.getElem?_eq_none (by omega), List.getElem?_eq_none (by rw [List.length_range]; omega)]
    rfl
noncomputable def cdB (bs : List Int) : Int := bif decide (raB bs ≥ 26) then ncB bs else 0
noncomputable def dtB (bs : List Int) : List Int := bif decide (raB bs ≥ 26) then l39 bs else bs.drop 2
/-- A packet whose data is a row that stays as it is. -/
def oPkL (mag row kind code : Int) (ds : List Int) : Out := ⟨.tu [.ag [.i .i64 mag, .i .i64 row, .i .i64 kind, .i .i64 code, .l .u8 ds], .c .en], []⟩
theorem frozen {Γ Γ' : Env} {w w' : World} {m r k c : Int} {ds : List Int} {v : Value} (hn : ∀ n, Γ.μ n = none) (hE : Ext Γ w Γ') (hS : SRel Γ' (oPk m r k c ds).res v) (hW : WRel Γ' (oPk m r k c ds).rg w') : ∃ Γ'', Ext Γ w Γ'' ∧ SRel Γ'' (oPkL m r k c ds).res v ∧ WRel Γ'' (oPkL m r k c ds).rg w' := by
  obtain ⟨B, hB, cs, hcs, hst, hsz, hst1, l2, hl⟩ := hW.live 0 _ rfl
  have hlive : live (oPk m r k c ds).rg 0 := ⟨_, rfl⟩
  have hk0 : Γ'.kp B.blk = none := hW.apart 0 B hlive hB
  let Γ'' : Env := { Γ' with kp := fun b => if b = B.blk then some (.cells cs 5 (0, 0)) else Γ'.kp b, ro := fun b => if b = B.blk then true else Γ'.ro b }
  have hle : Γ'.le Γ'' := ⟨fun _ _ h => h, fun b o h => by
      show (if b = B.blk then _ else Γ'.kp b) = some o
      by_cases hb : b = B.blk
      · rw [hb, hk0] at h; cases h
      · rw [if_neg hb]; exact h, fun b h => by
      show (if b = B.blk then true else Γ'.ro b) = true
      by_cases hb : b = B.blk
      · rw [if_pos hb]
      · rw [if_neg hb]; exact h, rfl⟩
  refine ⟨Γ'', ⟨hE.le.trans hle, fun b h => ?_, fun n B' h => hE.nw n B' h⟩, ?_, ⟨fun n g h => ?_, fun a b Ba Bb _ la => ?_, fun b o h => ?_, fun n Bn hn => ?_, fun b h => ?_⟩⟩
  · have h : (if b = B.blk then true else Γ'.ro b) = true := h
    by_cases hb : b = B.blk
    · rcases hE.nw 0 B hB with h1 | ⟨n', B', h1, _⟩
      · rw [hb]; exact .inr (.inl h1)
      · rw [hn] at h1; cases h1
    · rw [if_neg hb] at h; exact hE.ro b h
  · obtain ⟨vs, hv, hr⟩ := hS
    refine ⟨vs, hv, ?_⟩
    cases hr with
    | cons ha hr =>
      cases hr with
      | cons hb hr =>
        cases hr
        refine .cons ?_ (.cons (hb.mono hle) .nil)
        obtain ⟨us, hu, h5⟩ := ha
        refine ⟨us, hu, ?_⟩
        cases h5 with
        | cons h1 h5 =>
          cases h5 with
          | cons h2 h5 =>
            cases h5 with
            | cons h3 h5 =>
              cases h5 with
              | cons h4 h5 =>
                cases h5 with
                | cons hh h5 =>
                  cases h5
                  refine .cons (CR.mono hle h1) (.cons (CR.mono hle h2) (.cons (CR.mono hle h3) (.cons (CR.mono hle h4) (.cons ⟨?_, hh.2⟩ .nil))))
                  obtain ⟨B', o, cap, hB', rfl, hc, _, ho⟩ := hh.1
                  rw [hB] at hB'
                  cases hB'
                  refine ⟨_, cap, rfl, hc, ?_⟩
                  rcases ho with ⟨ho, _⟩ | ho
                  · refine .inr ⟨B.blk, 0, by rw [ho, Nat.zero_mul], ?_, cs, 5, (0, 0), ?_, fun j u hj => ?_⟩
                    · show (if B.blk = B.blk then true else Γ'.ro B.blk) = true
                      rw [if_pos rfl]
                    · show (if B.blk = B.blk then some _ else Γ'.kp B.blk) = _
                      rw [if_pos rfl]
                    · rw [Nat.zero_add, ← Array.getElem?_toList, hl]
                      exact prefix_get hj
                  · exact .inl (List.eq_nil_of_length_eq_zero (by omega))
  · cases h
  · obtain ⟨g, hg⟩ := la
    cases hg
  · have h : (if b = B.blk then some (Obj.cells cs 5 (0, 0)) else Γ'.kp b) = some o := h
    by_cases hb : b = B.blk
    · rw [if_pos hb] at h
      cases h
      rw [hb]; exact hcs
    · rw [if_neg hb] at h; exact hW.kp b o h
  · obtain ⟨g, hg⟩ := hn
    cases hg
  · have h : (if b = B.blk then true else Γ'.ro b) = true := h
    show ∃ o, (if b = B.blk then some (Obj.cells cs 5 (0, 0)) else Γ'.kp b) = some o
    by_cases hb : b = B.blk
    · exact ⟨_, by rw [if_pos hb]⟩
    · rw [if_neg hb] at h ⊢; exact hW.ro b h
/-- What gives a packet gives one whose data is a row. -/
theorem Known_rows {P : Program} {gl : List Nat} {f : FuncId} {T T' : Con} (h : Known P gl f T) (hT : ∀ args regs R, (T' args regs).run R → regs = [] ∧ (T args regs).run fun o => R o ∨ ∃ m r k c ds, o = oPk m r k c ds ∧ R (oPkL m r k c ds)) : Known P gl f T' := by
  refine ⟨h.goes, fun args regs R hR Γ w vs hw hG hv hn => ?_⟩
  obtain ⟨rfl, hR⟩ := hT args regs R hR
  refine (h.sound args [] _ hR Γ w vs hw hG hv hn).mono ?_
  rintro e w' ⟨o, v, Γ', ho, he, hE, hS, hW, hd⟩
  rcases ho with ho | ⟨m, r, k, c, ds, rfl, ho⟩
  · exact ⟨o, v, Γ', ho, he, hE, hS, hW, hd⟩
  · obtain ⟨Γ'', h1, h2, h3⟩ := frozen (fun n => hn n (Nat.zero_le _)) hE hS hW
    exact ⟨_, v, Γ'', ho, he, h1, h2, h3, hd⟩
noncomputable def outQ (bs : List Int) : Nat → Out
  | 0 => oPE 1
  | 1 => oPE 2
  | 2 => oPkL (mgB bs) (raB bs) (kindF (raB bs)) (ncB bs) (l39 bs)
  | _ => oPkL (mgB bs) (raB bs) (kindF (raB bs)) (cdB bs) (dtB bs)
noncomputable def tReadQ (j : Nat) : Con := fun args regs => match args, regs with
  | [.c (.l .u8 bs)], [] => .must (bs.length = 42 ∧ clsQ bs = j) (.ret (outQ bs j))
  | _, _ => .fail
def ofQ (R : Out → Prop) (o : Out) : Prop := R o ∨ ∃ m r k c ds, o = oPk m r k c ds ∧ R (oPkL m r k c ds)
theorem ofL {R : Out → Prop} {m r k c : Int} {ds : List Int} (h : R (oPkL m r k c ds)) : ofQ R (oPk m r k c ds) := .inr ⟨m, r, k, c, ds, rfl, h⟩
theorem readQ_in {bs : List Int} {j : Nat} {R : Out → Prop} (hl : bs.length = 42) (hc : clsQ bs = j) (h : R (outQ bs j)) : (bodyT (bs.getD 0 0) (bs.getD 1 0) (bs.drop 2)).run (ofQ R) := by
  unfold clsQ at hc
  show sel (gaB bs) (sel (decide (kindF (raB bs) = 0)) (ofQ R (oPE 2)) (sel (decide (raB bs ≥ 26)) (sel (gcB bs) (ofQ R (oPk (mgB bs) (raB bs) (kindF (raB bs)) (ncB bs) ((bs.drop 2).drop 1))) (ofQ R (oPE 1))) (ofQ R (oPk (mgB bs) (raB bs) (kindF (raB bs)) 0 (bs.drop 2))))) (ofQ R (oPE 1))
  cases h1 : gaB bs with
  | false =>
    rw [h1] at hc
    subst hc
    exact selF rfl (.inl h)
  | true =>
    rw [h1] at hc
    refine selT rfl ?_
    cases h2 : decide (kindF (raB bs) = 0) with
    | true =>
      rw [h2] at hc
      subst hc
      exact selT rfl (.inl h)
    | false =>
      rw [h2] at hc
      refine selF rfl ?_
      cases h3 : decide (raB bs ≥ 26) with
      | false =>
        rw [h3] at hc
        subst hc
        have h : R (oPkL (mgB bs) (raB bs) (kindF (raB bs)) (cdB bs) (dtB bs)) := h
        unfold cdB dtB at h
        rw [h3] at h
        exact selF rfl (ofL h)
      | true =>
        rw [h3] at hc
        refine selT rfl ?_
        cases h4 : gcB bs with
        | false =>
          rw [h4] at hc
          subst hc
          exact selF rfl (.inl h)
        | true =>
          rw [h4] at hc
          refine selT rfl ?_
          rw [l39_eq bs hl]
          cases h5 : hasB (kindF (raB bs)) with
          | false =>
            rw [h5] at hc
            subst hc
            have h : R (oPkL (mgB bs) (raB bs) (kindF (raB bs)) (cdB bs) (dtB bs)) := h
            unfold cdB dtB at h
            rw [h3] at h
            exact ofL h
          | true =>
            rw [h5] at hc
            subst hc
            exact ofL h
set_option maxRecDepth 100000 in
theorem kReadQ (j : Nat) : Known Tryd.prog GL 15 (tReadQ j) := by
  refine Known_rows kRead fun args regs R h => ?_
  unfold tReadQ at h
  split at h
  case h_2 => exact h.elim
  have h1 := h.1
  have h2 := h.2
  clear h
  exact ⟨rfl, selT (dT h1.1) (readQ_in h1.1 h1.2 h2)⟩
/-- Bytes that are the same, both or none. -/
noncomputable def tSameN : Con := fun args regs => match args, regs with
  | [.c (.l .u8 xs), .c (.l .u8 ys)], [] => .must (xs = ys ∧ xs.length ≤ 1000000) (.ret (oB true))
  | [.c .sn, .c .sn], [] => .ret (oB true)
  | _, _ => .fail
set_option maxRecDepth 100000 in
theorem kSameN : Known Tryd.prog GL 23 tSameN := by
  refine kg_same.less fun args regs R h => ?_
  unfold tSameN at h
  split at h
  case h_3 => exact h.elim
  case h_1 xs ys =>
    have h1 := h.1
    have h2 : R (oB true) := h.2
    clear h
    obtain ⟨rfl, hl⟩ := h1
    refine ⟨hl, ?_⟩
    show R (oB (xs == xs))
    rw [beq_self_eq_true]
    exact h2
  case h_2 => exact ⟨by decide, h⟩
noncomputable def c_tsG : FuncId → Option Con := conOf [(34, t_first9), (15, (tReadQ 2)), (38, (tRd true)), (41, t_tother), (40, (tRRd true)), (37, tRegion), (42, tRRegion), (19, t_is), (43, (tSBools true)), (36, tTBg), (44, tRTBg), (23, tSameN), (45, t_tnum), (46, t_rtnum), (35, t_tof), (47, t_rtof), (39, tSameTT)]
theorem kc_tsG : ∀ f T, c_tsG f = some T → Known Tryd.prog GL f T := (Knowns.cons k_first9 (.cons (kReadQ 2) (.cons (kTRd true) (.cons k_tother (.cons (kRRd true) (.cons kRegion (.cons kRRegion (.cons k_is (.cons (kSBools true) (.cons kTBg (.cons kRTBg (.cons kSameN (.cons k_tnum (.cons k_rtnum (.cons k_tof (.cons k_rtof (.cons kSameTT .nil))))))))))))))))).get
noncomputable def X_tsG : Cx := { P := Tryd.prog, con := c_tsG, glob := GL, m := 0, loops := [] }
noncomputable def t_tsG : Con := fun args regs => if regs.length = 0 then nfun Tryd.prog GL c_tsG [(0, [1, 2, 3, 4, 6, 12, 15, 18, 19, 21, 28], sumP pS0 rS0 lS0)] Tryd.f10 args regs else .fail
theorem k_tsG : Known Tryd.prog GL 10 t_tsG := known_loops 0 Tryd.func10 rfl (by kernel_rfl) mixed kc_tsG (LAll.one (id := 0) (body := bodyLoop Tryd.f10 0) (by kernel_rfl) rfl loop_s0)
noncomputable def c_tsE (j : Nat) : FuncId → Option Con := conOf [(34, t_first9), (15, (tReadQ j)), (38, (tRd false)), (41, t_tother), (40, (tRRd false)), (37, tRegion), (42, tRRegion), (19, t_is), (43, (tSBools false)), (36, tTBg), (44, tRTBg), (23, tSameN), (45, t_tnum), (46, t_rtnum), (35, t_tof), (47, t_rtof), (39, tSameTT)]
theorem kc_tsE (j : Nat) : ∀ f T, (c_tsE j) f = some T → Known Tryd.prog GL f T := (Knowns.cons k_first9 (.cons (kReadQ j) (.cons (kTRd false) (.cons k_tother (.cons (kRRd false) (.cons kRegion (.cons kRRegion (.cons k_is (.cons (kSBools false) (.cons kTBg (.cons kRTBg (.cons kSameN (.cons k_tnum (.cons k_rtnum (.cons k_tof (.cons k_rtof (.cons kSameTT .nil))))))))))))))))).get
noncomputable def X_tsE (j : Nat) : Cx := { P := Tryd.prog, con := (c_tsE j), glob := GL, m := 0, loops := [] }
noncomputable def t_tsE (j : Nat) : Con := fun args regs => if regs.length = 0 then nfun Tryd.prog GL (c_tsE j) [(0, [1, 2, 3, 4, 6, 12, 15, 18, 19, 21, 28], unroll (X_tsE j) 0 [1, 2, 3, 4, 6, 12, 15, 18, 19, 21, 28] [1, 2, 3, 4, 6, 12, 14, 15] (bodyLoop Tryd.f10 0) 1)] Tryd.f10 args regs else .fail
theorem k_tsE (j : Nat) : Known Tryd.prog GL 10 (t_tsE j) := known_loops 0 Tryd.func10 rfl (by kernel_rfl) mixed (kc_tsE j) (LAll.one (id := 0) (body := bodyLoop Tryd.f10 0) (by kernel_rfl) rfl (unroll_ok (X := (X_tsE j)) (kc_tsE j) mixed (LAll.none (by kernel_rfl)) [1, 2, 3, 4, 6, 12, 15, 18, 19, 21, 28] [1, 2, 3, 4, 6, 12, 14, 15] 1))
end Go.Proofs.YthjdlanmfiofdaaDoor.ts

namespace Go.Proofs.YthjdlanmfiofdaaDoor.ts
open Go Go.Nx Go.Proofs.YthjdlanmfiofdaaDoor.pk Go.Proofs.YthjdlanmfiofdaaDoor.ln Go.Proofs.YthjdlanmfiofdaaDoor.hd Go.Proofs.YthjdlanmfiofdaaDoor.tr

noncomputable def nS (a b c : Int) : Int := oI (oI (aI a 63) (shlv .i64 (aI b 31) 6)) (shlv .i64 (aI c 127) 11)
noncomputable def endS (a b c n : Int) (R : Out → Prop) : Prop := sel (nS a b c == nS a b c) ((aI n 63 = aI n 63 ∧ aI (shrv .i64 n 6) 31 = aI (shrv .i64 n 6) 31 ∧ aI (shrv .i64 n 11) 127 = aI (shrv .i64 n 11) 127) ∧ R (oB true)) (R (oB false))
noncomputable def LAs (mg rw cd : Int) (L : List (List Sc)) : List Int := List.take 42 (List.drop 0 (adr0 mg rw :: adr1 rw :: LTg cd L))
noncomputable def tailS (mg rw cd : Int) (L : List (List Sc)) (a b c n : Int) (R : Out → Prop) : Prop :=
  sel (okTB mg rw cd)
    (sel (decide (L.length = 13)) (sel (okTB mg rw cd) (sel (decide (L.length = 13)) ((LAs mg rw cd L = LAs mg rw cd L ∧ (LAs mg rw cd L).length ≤ 1000000) ∧ endS a b c n R) (R (oB false))) (R (oB false)))
      (sel (okTB mg rw cd) (sel (decide (L.length = 13)) (R (oB false)) (endS a b c n R)) (R (oB false))))
    (sel (okTB mg rw cd) (sel (decide (L.length = 13)) (R (oB false)) (R (oB false))) (endS a b c n R))
noncomputable def rnS (k c : Int) (d : List Int) : Int := bif regB k c d then regN d else 0
def byS (d : List Int) : Prop := ∀ x ∈ d, 0 ≤ x ∧ x < 256
noncomputable def midN (k c : Int) (ds : List Int) (T : Prop) (R : Out → Prop) : Prop :=
  ((hasB k = false ∧ (false = true → 39 ≤ ds.length ∧ ds.length < 1000 ∧ byS ds)) ∧ ((hasB k = false ∧ (false = true → ds.length = 39 ∧ byS ds)) ∧
    ((39 ≤ ds.length ∧ ds.length < 1000 ∧ byS ds) ∧ ((((k = 5 ∨ k = 6) → ds.length = 39) ∧ 39 ≤ ds.length ∧ ds.length < 1000 ∧ byS ds) ∧
      sel (rnS k c ds != rnS k c ds) (R (oB false)) (sel (regB k c ds != regB k c ds) (R (oB false)) T)))))
noncomputable def G13 (d : List Int) : List (List Sc) := List.take 13 (List.drop 0 (GT d))
def boolsS (xs : List (List Sc)) : Prop := ∃ b0 b1 b2 b3 b4 b5 b6 b7 b8 b9 b10 b11 b12 : Bool, xs = [[Sc.b b0], [Sc.b b1], [Sc.b b2], [Sc.b b3], [Sc.b b4], [Sc.b b5], [Sc.b b6], [Sc.b b7], [Sc.b b8], [Sc.b b9], [Sc.b b10], [Sc.b b11], [Sc.b b12]]
noncomputable def midT (k c : Int) (d : List Int) (T : Prop) (R : Out → Prop) : Prop :=
  (hasB k = true ∧ (true = true → 39 ≤ d.length ∧ d.length < 1000 ∧ byS d)) ∧ (hasB k = true ∧ (true = true → d.length = 39 ∧ byS d)) ∧
    (39 ≤ d.length ∧ d.length < 1000 ∧ byS d) ∧ (((k = 5 ∨ k = 6) → d.length = 39) ∧ 39 ≤ d.length ∧ d.length < 1000 ∧ byS d) ∧
      (G13 d = G13 d ∧ boolsS (G13 d)) ∧
      sel (rnS k c d != rnS k c d) (R (oB false)) (sel (regB k c d != regB k c d) (R (oB false))
        (((13 = 13 ∧ 13 = 13 ∧ 13 = 13) ∧ ((XT d).length = 13 ∧ (GT d).length = 13 ∧ (XT d).length = 13) ∧ 0 ≤ (0 : Int) ∧ (0 : Int) ≤ 13 ∧ ∀ j : Nat, (0 : Int) ≤ (j : Int) → j < 13 → alikeS (XT d) (GT d) (XT d) j) ∧ T))
theorem tsE_0 (bs : List Int) (mg rw cd : Int) (L : List (List Sc)) (a b c n : Int) (R : Out → Prop) : (t_tsE 0 [.c (.l .u8 bs), .c (.i .i64 mg), .c (.i .i64 rw), .c (.i .i64 cd), .c (.lr [.i .i64, .i .i64, .i .i64] L), .ag [.i .i64 a, .i .i64 b, .i .i64 c], .c (.i .i64 n)] []).run R =
    sel ((bs.length : Int) != 42) (R (oB true)) (sel (decide ((L.length : Int) > 20)) (R (oB true)) ((bs.length = 42 ∧ clsQ bs = 0) ∧ tailS mg rw cd L a b c n R)) := by kernel_rfl
theorem tsE_1 (bs : List Int) (mg rw cd : Int) (L : List (List Sc)) (a b c n : Int) (R : Out → Prop) : (t_tsE 1 [.c (.l .u8 bs), .c (.i .i64 mg), .c (.i .i64 rw), .c (.i .i64 cd), .c (.lr [.i .i64, .i .i64, .i .i64] L), .ag [.i .i64 a, .i .i64 b, .i .i64 c], .c (.i .i64 n)] []).run R =
    sel ((bs.length : Int) != 42) (R (oB true)) (sel (decide ((L.length : Int) > 20)) (R (oB true)) ((bs.length = 42 ∧ clsQ bs = 1) ∧ tailS mg rw cd L a b c n R)) := by kernel_rfl
theorem tsE_3 (bs : List Int) (mg rw cd : Int) (L : List (List Sc)) (a b c n : Int) (R : Out → Prop) : (t_tsE 3 [.c (.l .u8 bs), .c (.i .i64 mg), .c (.i .i64 rw), .c (.i .i64 cd), .c (.lr [.i .i64, .i .i64, .i .i64] L), .ag [.i .i64 a, .i .i64 b, .i .i64 c], .c (.i .i64 n)] []).run R =
    sel ((bs.length : Int) != 42) (R (oB true)) (sel (decide ((L.length : Int) > 20)) (R (oB true)) ((bs.length = 42 ∧ clsQ bs = 3) ∧ midN (kindF (raB bs)) (cdB bs) (dtB bs) (tailS mg rw cd L a b c n R) R)) := by kernel_rfl
theorem tsG_2 (bs : List Int) (mg rw cd : Int) (L : List (List Sc)) (a b c n : Int) (R : Out → Prop) : (t_tsG [.c (.l .u8 bs), .c (.i .i64 mg), .c (.i .i64 rw), .c (.i .i64 cd), .c (.lr [.i .i64, .i .i64, .i .i64] L), .ag [.i .i64 a, .i .i64 b, .i .i64 c], .c (.i .i64 n)] []).run R =
    sel ((bs.length : Int) != 42) (R (oB true)) (sel (decide ((L.length : Int) > 20)) (R (oB true)) ((bs.length = 42 ∧ clsQ bs = 2) ∧ midT (kindF (raB bs)) (ncB bs) (l39 bs) (tailS mg rw cd L a b c n R) R)) := by kernel_rfl
end Go.Proofs.YthjdlanmfiofdaaDoor.ts

namespace Go.Proofs.YthjdlanmfiofdaaDoor.ts
open Go Go.Nx Go.Proofs.YthjdlanmfiofdaaDoor.pk Go.Proofs.YthjdlanmfiofdaaDoor.ln Go.Proofs.YthjdlanmfiofdaaDoor.hd Go.Proofs.YthjdlanmfiofdaaDoor.tr

def isT (o : Out) : Prop := o.res = .v (.c (.b true))
theorem box_holds {t : Tr Out} {R : Out → Prop} (h : Box (t.run R)) : Holds t R := ⟨h.out⟩
theorem nK_no {ds : List Int} {k : Nat} (h : gK ds k = false) : nK ds k = 0 := by
  unfold nK
  unfold gK ham.getB at h
  unfold ham.getN
  cases h1 : (ham.atv (wK ds k) == 0) with
  | true => rw [h1] at h; cases h
  | false =>
    rw [h1] at h
    cases h2 : ham.parTo (wK ds k) 32 with
    | true => rfl
    | false =>
      rw [h2] at h
      cases h3 : decide (24 ≤ (ham.atv (wK ds k)).toNat) with
      | true => rfl
      | false => rw [h3] at h; cases h
theorem row0 : ∀ c < 3, ((rowX 0).getD c (Sc.i 0)).n = 0 := by decide +kernel
theorem al_in {ds : List Int} {j : Nat} (hx : (XT ds).getD j [] = rowX (nK ds j)) (hb : bS (GT ds) j = gK ds j) : alikeS (XT ds) (GT ds) (XT ds) j := by
  refine ⟨fun _ _ _ => rfl, fun h c hc => ?_⟩
  rw [hb] at h
  unfold vS
  rw [hx, nK_no h]
  exact row0 c hc
theorem al_all (ds : List Int) : ∀ j : Nat, (0 : Int) ≤ (j : Int) → j < 13 → alikeS (XT ds) (GT ds) (XT ds) j := by
  intro j _ hj
  match j, hj with
  | 0, _ => exact al_in rfl rfl
  | 1, _ => exact al_in rfl rfl
  | 2, _ => exact al_in rfl rfl
  | 3, _ => exact al_in rfl rfl
  | 4, _ => exact al_in rfl rfl
  | 5, _ => exact al_in rfl rfl
  | 6, _ => exact al_in rfl rfl
  | 7, _ => exact al_in rfl rfl
  | 8, _ => exact al_in rfl rfl
  | 9, _ => exact al_in rfl rfl
  | 10, _ => exact al_in rfl rfl
  | 11, _ => exact al_in rfl rfl
  | 12, _ => exact al_in rfl rfl
theorem bools_in (ds : List Int) : boolsS (G13 ds) := ⟨gK ds 0, gK ds 1, gK ds 2, gK ds 3, gK ds 4, gK ds 5, gK ds 6, gK ds 7, gK ds 8, gK ds 9, gK ds 10, gK ds 11, gK ds 12, rfl⟩
theorem end_in {a b c n : Int} {R : Out → Prop} (h : R (oB true)) : endS a b c n R := selT (beq_self_eq_true _) ⟨⟨rfl, rfl, rfl⟩, h⟩
theorem LAs_len (mg rw cd : Int) (L : List (List Sc)) : (LAs mg rw cd L).length ≤ 1000000 := by
  show 42 ≤ 1000000
  decide
theorem tail_in {mg rw cd : Int} {L : List (List Sc)} {a b c n : Int} {R : Out → Prop} (h : R (oB true)) : tailS mg rw cd L a b c n R := by
  have he : endS a b c n R := end_in h
  unfold tailS
  cases okTB mg rw cd with
  | false => exact selF rfl (selF rfl he)
  | true =>
    cases decide (L.length = 13) with
    | false => exact selT rfl (selF rfl (selT rfl (selF rfl he)))
    | true => exact selT rfl (selT rfl (selT rfl (selT rfl ⟨⟨rfl, LAs_len mg rw cd L⟩, he⟩)))
theorem ne_self_i (n : Int) : (n != n) = false := by simp
theorem midT_in {k c : Int} {d : List Int} {T : Prop} {R : Out → Prop} (hk : hasB k = true) (hl : d.length = 39) (hb : byS d) (h : T) : midT k c d T R := by
  have h39 : 39 ≤ d.length ∧ d.length < 1000 ∧ byS d := ⟨by omega, by omega, hb⟩
  exact ⟨⟨hk, fun _ => h39⟩, ⟨hk, fun _ => ⟨hl, hb⟩⟩, h39, ⟨fun _ => hl, h39⟩, ⟨rfl, bools_in d⟩, selF (ne_self_i _) (selF (bne_self _) ⟨⟨⟨rfl, rfl, rfl⟩, ⟨rfl, rfl, rfl⟩, by decide, by decide, al_all d⟩, h⟩)⟩
theorem midN_in {k c : Int} {d : List Int} {T : Prop} {R : Out → Prop} (hk : hasB k = false) (hl : 39 ≤ d.length ∧ d.length < 1000) (hb : byS d) (h : T) : midN k c d T R := by
  have h39 : 39 ≤ d.length ∧ d.length < 1000 ∧ byS d := ⟨hl.1, hl.2, hb⟩
  have hn : (k = 5 ∨ k = 6) → d.length = 39 := fun h5 => by
    unfold hasB at hk
    simp only [Bool.or_eq_false_iff, beq_eq_false_iff_ne] at hk
    omega
  exact ⟨⟨hk, fun h => nomatch h⟩, ⟨hk, fun h => nomatch h⟩, h39, ⟨hn, h39⟩, selF (ne_self_i _) (selF (bne_self _) h)⟩
theorem cls2 {bs : List Int} (h : clsQ bs = 2) : hasB (kindF (raB bs)) = true := by
  cases hk : hasB (kindF (raB bs)) with
  | true => rfl
  | false =>
    unfold clsQ at h
    rw [hk] at h
    revert h
    cases gaB bs <;> cases decide (kindF (raB bs) = 0) <;> cases decide (raB bs ≥ 26) <;> cases gcB bs <;> decide
theorem cls3 {bs : List Int} (h : clsQ bs = 3) : hasB (kindF (raB bs)) = false := by
  cases hk : hasB (kindF (raB bs)) with
  | false => rfl
  | true =>
    rw [has_row] at hk
    have h26 : raB bs ≥ 26 := by
      simp only [Bool.or_eq_true, beq_iff_eq] at hk
      omega
    unfold clsQ at h
    rw [has_row, hk, dT h26] at h
    revert h
    cases gaB bs <;> cases decide (kindF (raB bs) = 0) <;> cases gcB bs <;> decide
theorem cls_in (bs : List Int) : clsQ bs = 0 ∨ clsQ bs = 1 ∨ clsQ bs = 2 ∨ clsQ bs = 3 := by
  unfold clsQ
  cases gaB bs <;> cases decide (kindF (raB bs) = 0) <;> cases decide (raB bs ≥ 26) <;> cases gcB bs <;> cases hasB (kindF (raB bs)) <;> decide
theorem l39_in {bs : List Int} (h : ∀ x ∈ bs, 0 ≤ x ∧ x < 256) : byS (l39 bs) := by
  intro x hx
  unfold l39 at hx
  rw [List.mem_map] at hx
  obtain ⟨i, _, rfl⟩ := hx
  exact getD_in h _
theorem dt_in {bs : List Int} (hl : bs.length = 42) (h : ∀ x ∈ bs, 0 ≤ x ∧ x < 256) : (39 ≤ (dtB bs).length ∧ (dtB bs).length < 1000) ∧ byS (dtB bs) := by
  unfold dtB
  cases decide (raB bs ≥ 26) with
  | true => exact ⟨⟨by show 39 ≤ 39; decide, by show 39 < 1000; decide⟩, l39_in h⟩
  | false =>
    refine ⟨?_, fun x hx => h x (List.mem_of_mem_drop hx)⟩
    show 39 ≤ (bs.drop 2).length ∧ (bs.drop 2).length < 1000
    rw [List.length_drop]
    omega
theorem Known_four {P : Program} {gl : List Nat} {f : FuncId} {A B C D T : Con} (ha : Known P gl f A) (hb : Known P gl f B) (hc : Known P gl f C) (hd : Known P gl f D) (h : ∀ args regs R, (T args regs).run R → Box ((A args regs).run R) ∨ Box ((B args regs).run R) ∨ Box ((C args regs).run R) ∨ Box ((D args regs).run R)) : Known P gl f T :=
  ⟨ha.goes, fun args regs R hR => by
    rcases h args regs R hR with x | x | x | x
    · exact ha.sound args regs R x.out
    · exact hb.sound args regs R x.out
    · exact hc.sound args regs R x.out
    · exact hd.sound args regs R x.out⟩
theorem in_law {bs : List Int} {L : List (List Sc)} {A B : Prop} (hA : A) (hB : bs.length = 42 → B) : sel ((bs.length : Int) != 42) A (sel (decide ((L.length : Int) > 20)) A B) := by
  by_cases h : bs.length = 42
  · exact selF (by simp [bne, h]) (sel_by (fun _ => hA) fun _ => hB h)
  · exact selT (by rw [bne_iff_ne]; omega) hA
noncomputable def tSaysV : Con := fun args regs => match args, regs with
  | [.c (.l .u8 bs), .c (.i .i64 _), .c (.i .i64 _), .c (.i .i64 _), .c (.lr [.i .i64, .i .i64, .i .i64] _), .ag [.i .i64 _, .i .i64 _, .i .i64 _], .c (.i .i64 _)], [] => .must (∀ x ∈ bs, 0 ≤ x ∧ x < 256) (.ret (oB true))
  | _, _ => .fail
theorem says_in (bs : List Int) (mg rw cd : Int) (L : List (List Sc)) (a b c n : Int) {R : Out → Prop} (hb : ∀ x ∈ bs, 0 ≤ x ∧ x < 256) (h : R (oB true)) : Box ((t_tsG [.c (.l .u8 bs), .c (.i .i64 mg), .c (.i .i64 rw), .c (.i .i64 cd), .c (.lr [.i .i64, .i .i64, .i .i64] L), .ag [.i .i64 a, .i .i64 b, .i .i64 c], .c (.i .i64 n)] []).run R) ∨ Box ((t_tsE 0 [.c (.l .u8 bs), .c (.i .i64 mg), .c (.i .i64 rw), .c (.i .i64 cd), .c (.lr [.i .i64, .i .i64, .i .i64] L), .ag [.i .i64 a, .i .i64 b, .i .i64 c], .c (.i .i64 n)] []).run R) ∨ Box ((t_tsE 1 [.c (.l .u8 bs), .c (.i .i64 mg), .c (.i .i64 rw), .c (.i .i64 cd), .c (.lr [.i .i64, .i .i64, .i .i64] L), .ag [.i .i64 a, .i .i64 b, .i .i64 c], .c (.i .i64 n)] []).run R) ∨ Box ((t_tsE 3 [.c (.l .u8 bs), .c (.i .i64 mg), .c (.i .i64 rw), .c (.i .i64 cd), .c (.lr [.i .i64, .i .i64, .i .i64] L), .ag [.i .i64 a, .i .i64 b, .i .i64 c], .c (.i .i64 n)] []).run R) := by
  rcases cls_in bs with hc | hc | hc | hc
  · exact .inr (.inl (Box.of_eq (tsE_0 bs mg rw cd L a b c n R) (in_law h fun hl => ⟨⟨hl, hc⟩, tail_in h⟩)))
  · exact .inr (.inr (.inl (Box.of_eq (tsE_1 bs mg rw cd L a b c n R) (in_law h fun hl => ⟨⟨hl, hc⟩, tail_in h⟩))))
  · exact .inl (Box.of_eq (tsG_2 bs mg rw cd L a b c n R) (in_law h fun hl => ⟨⟨hl, hc⟩, midT_in (cls2 hc) rfl (l39_in hb) (tail_in h)⟩))
  · exact .inr (.inr (.inr (Box.of_eq (tsE_3 bs mg rw cd L a b c n R) (in_law h fun hl => ⟨⟨hl, hc⟩, midN_in (cls3 hc) (dt_in hl hb).1 (dt_in hl hb).2 (tail_in h)⟩))))
set_option maxRecDepth 100000 in
theorem kSaysV : Known Tryd.prog GL 10 tSaysV := by
  refine Known_four k_tsG (k_tsE 0) (k_tsE 1) (k_tsE 3) fun args regs R h => ?_
  unfold tSaysV at h
  split at h
  case h_2 => exact h.elim
  exact says_in _ _ _ _ _ _ _ _ _ h.1 h.2
theorem wf_u8 {n : Int} (h : (Lit.int .u8 n).wf = true) : 0 ≤ n ∧ n < 256 := by
  simp only [Lit.wf, Bool.and_eq_true, decide_eq_true_eq] at h
  have h1 : IntKind.u8.min = 0 := rfl
  have h2 : IntKind.u8.max = 255 := rfl
  rw [h1, h2] at h
  omega
def shsS : List Sh := [.row .u8, .i .i64, .i .i64, .i .i64, .rows k3, .ag k3, .i .i64]
theorem row3 (row : List Sc) : rowCells k3 row = [.i .i64 (row.getD 0 (Sc.i 0)).n, .i .i64 (row.getD 1 (Sc.i 0)).n, .i .i64 (row.getD 2 (Sc.i 0)).n] := rfl
theorem says_law (xs : List NV) (h : R2 ShOk shsS xs) : Holds (tSaysV xs []) fun o => o.res = .v (.c (.b true)) := by
  cases h with
  | cons h1 h =>
    cases h with
    | cons h2 h =>
      cases h with
      | cons h3 h =>
        cases h with
        | cons h4 h =>
          cases h with
          | cons h5 h =>
            cases h with
            | cons h6 h =>
              cases h with
              | cons h7 h =>
                cases h
                cases h1 with
                | @row _ bs hb =>
                  cases h2
                  cases h3
                  cases h4
                  cases h5
                  cases h6
                  cases h7
                  rw [row3]
                  exact ⟨⟨fun x hx => wf_u8 (hb x hx), rfl⟩⟩
end Go.Proofs.YthjdlanmfiofdaaDoor.ts
