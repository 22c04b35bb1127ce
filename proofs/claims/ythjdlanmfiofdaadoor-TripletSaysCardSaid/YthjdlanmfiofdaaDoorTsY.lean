/-
  Triplets, of the program and of the document, by what they do.
-/
import Derived.Test.YthjdlanmfiofdaaDoorTsX
import Derived.Test.YthjdlanmfiofdaaDoorTrX
namespace Go.Proofs.YthjdlanmfiofdaaDoor.tr
open Go Go.Nx Go.Proofs.YthjdlanmfiofdaaDoor.pk Go.Proofs.YthjdlanmfiofdaaDoor.ln Go.Proofs.YthjdlanmfiofdaaDoor.hd

noncomputable def c_tread : FuncId → Option Con := conOf [(79, t_thas), (81, tNumbers), (35, t_tof)]
theorem kc_tread : ∀ f T, c_tread f = some T → Known Tryd.prog GL f T := (Knowns.cons k_thas (.cons kNumbers (.cons k_tof .nil))).get
noncomputable def X_tread : Cx := { P := Tryd.prog, con := c_tread, glob := GL, m := 0, loops := [] }
noncomputable def t_tread : Con := fun args regs => if regs.length = 0 then nfun Tryd.prog GL c_tread [(0, [6, 7, 20, 21, 22], unroll X_tread 0 [6, 7, 20, 21, 22] [6, 7] (bodyLoop Tryd.f38 0) 14)] Tryd.f38 args regs else .fail
theorem k_tread : Known Tryd.prog GL 38 t_tread := known_loops 0 Tryd.func38 rfl (by kernel_rfl) mixed kc_tread (LAll.one (id := 0) (body := bodyLoop Tryd.f38 0) (by kernel_rfl) rfl (unroll_ok (X := X_tread) kc_tread mixed (LAll.none (by kernel_rfl)) [6, 7, 20, 21, 22] [6, 7] 14))
noncomputable def t_sameT : Con := fun args regs => nfun Tryd.prog GL (fun _ => Option.none) [] Tryd.f39 args regs
theorem k_sameT : Known Tryd.prog GL 39 t_sameT := known_inl Tryd.func39 rfl (by kernel_rfl) mixed con_none (by kernel_rfl)
noncomputable def rowX (X : Int) : List Sc := [Sc.i (aI X 63), Sc.i (aI (shrv .i64 X 6) 31), Sc.i (aI (shrv .i64 X 11) 127)]
noncomputable def XT (ds : List Int) : List (List Sc) := [rowX (nK ds 0), rowX (nK ds 1), rowX (nK ds 2), rowX (nK ds 3), rowX (nK ds 4), rowX (nK ds 5), rowX (nK ds 6), rowX (nK ds 7), rowX (nK ds 8), rowX (nK ds 9), rowX (nK ds 10), rowX (nK ds 11), rowX (nK ds 12)]
noncomputable def GT (ds : List Int) : List (List Sc) := [[Sc.b (gK ds 0)], [Sc.b (gK ds 1)], [Sc.b (gK ds 2)], [Sc.b (gK ds 3)], [Sc.b (gK ds 4)], [Sc.b (gK ds 5)], [Sc.b (gK ds 6)], [Sc.b (gK ds 7)], [Sc.b (gK ds 8)], [Sc.b (gK ds 9)], [Sc.b (gK ds 10)], [Sc.b (gK ds 11)], [Sc.b (gK ds 12)]]
noncomputable def oTr (ds : List Int) : Out := ⟨.tu [.c (.h 0 0 13), .c (.h 1 0 13), .c .en], [some ⟨3, 66, .recs [.i .i64, .i .i64, .i .i64] (XT ds)⟩, some ⟨1, 4, .recs [.b] (GT ds)⟩]⟩
theorem tread_tree (m w c : Int) (ds : List Int) (R : Out → Prop) : (t_tread [.ag [.i .i64 m, .i .i64 w, .i .i64 3, .i .i64 c, .l .u8 ds]] []).run R = (mustNum ds ∧ R (oTr ds)) := by kernel_rfl
/-- Triplets of an overlay. -/
noncomputable def tTread : Con := fun args regs => match args, regs with
  | [.ag [.i .i64 _, .i .i64 _, .i .i64 k, .i .i64 _, .l .u8 ds]], [] => .must (k = 3 ∧ 39 ≤ ds.length ∧ ds.length < 1000 ∧ ∀ x ∈ ds, 0 ≤ x ∧ x < 256) (.ret (oTr ds))
  | _, _ => .fail
set_option maxRecDepth 100000 in
theorem kTread : Known Tryd.prog GL 38 tTread := by
  refine k_tread.less fun args regs R h => Box.out ?_
  unfold tTread at h
  split at h
  case h_2 => exact h.elim
  rename_i m w k c ds
  have h1 := h.1
  have h2 : R (oTr ds) := h.2
  clear h
  obtain ⟨rfl, hm⟩ := h1
  exact Box.of_eq (tread_tree m w c ds R) ⟨hm, h2⟩
/-- A triplet that is this one. -/
noncomputable def tSameTT : Con := fun args regs => match args, regs with
  | [.ag [.i .i64 a, .i .i64 b, .i .i64 c], .ag [.i .i64 x, .i .i64 y, .i .i64 z]], [] => .must (a = x ∧ b = y ∧ c = z) (.ret (oB true))
  | _, _ => .fail
theorem sameT_tree (a b c x y z : Int) (R : Out → Prop) : (t_sameT [.ag [.i .i64 a, .i .i64 b, .i .i64 c], .ag [.i .i64 x, .i .i64 y, .i .i64 z]] []).run R = sel (a == x) (sel (b == y) (R (oB (c == z))) (R (oB false))) (R (oB false)) := by kernel_rfl
set_option maxRecDepth 100000 in
theorem kSameTT : Known Tryd.prog GL 39 tSameTT := by
  refine k_sameT.less fun args regs R h => Box.out ?_
  unfold tSameTT at h
  split at h
  case h_2 => exact h.elim
  rename_i a b c x y z
  have h1 := h.1
  have h2 : R (oB true) := h.2
  clear h
  obtain ⟨rfl, rfl, rfl⟩ := h1
  refine Box.of_eq (sameT_tree a b c a b c R) (selT (beq_self_eq_true _) (selT (beq_self_eq_true _) ?_))
  rw [beq_self_eq_true]
  exact h2
/-! ### the loops of TripletBack -/
noncomputable abbrev fTBack := Tryd.f9
noncomputable def rT (W : List (List Sc)) : Option Reg := some ⟨3, 66, .recs [.i .i64, .i .i64, .i .i64] W⟩
noncomputable def rG (B : List (List Sc)) : Option Reg := some ⟨1, 4, .recs [.b] B⟩
noncomputable def c_b2 : FuncId → Option Con := conOf [(26, num.tNumV)]
theorem kc_b2 : ∀ f T, c_b2 f = some T → Known Tryd.prog GL f T := (Knowns.cons (known_gl num.kNumV) .nil).get
noncomputable def X_b2 : Cx := { P := Tryd.prog, con := c_b2, glob := GL, m := 0, loops := [] }
noncomputable def sB2 (W : List (List Sc)) (code : Int) (bs : List Int) (at1 : Int) (ok : Bool) (A : List Int) (qw qa : Nat) (i : Int) : St := { fr := frame 190 [(1, .v (.c (.i .i64 code))), (3, .v (.c (.l .i64 bs))), (4, .v (.c (.i .i64 at1))), (11, .v (.c (.b ok))), (12, .v (.c (.h 0 0 qw))), (14, .v (.c (.h 1 0 qa))), (16, .v (.c (.i .i64 i)))], rg := [rT W, some ⟨1, 5, .ints .u8 A⟩] }
noncomputable def dB2 (W : List (List Sc)) (code : Int) (at1 : Int) (ok : Bool) (A : List Int) (qw qa : Nat) : St := { fr := frame 190 [(1, .v (.c (.i .i64 code))), (4, .v (.c (.i .i64 at1))), (11, .v (.c (.b ok))), (12, .v (.c (.h 0 0 qw))), (14, .v (.c (.h 1 0 qa)))], rg := [rT W, some ⟨1, 5, .ints .u8 A⟩] }
noncomputable def c_b4 : FuncId → Option Con := conOf [(39, tSameTT)]
theorem kc_b4 : ∀ f T, c_b4 f = some T → Known Tryd.prog GL f T := (Knowns.cons kSameTT .nil).get
noncomputable def X_b4 : Cx := { P := Tryd.prog, con := c_b4, glob := GL, m := 0, loops := [] }
noncomputable def sB4 (W X B : List (List Sc)) (a : Int) (ok : Bool) (i : Int) : St := { fr := frame 190 [(4, .v (.c (.i .i64 a))), (11, .v (.c (.b ok))), (12, .v (.c (.h 0 0 13))), (20, .v (.c (.h 1 0 13))), (21, .v (.c (.h 2 0 13))), (23, .v (.c (.i .i64 i)))], rg := [rT W, rT X, rG B] }
noncomputable def dB4 (ok : Bool) : St := { fr := frame 190 [(11, .v (.c (.b ok)))], rg := [] }
end Go.Proofs.YthjdlanmfiofdaaDoor.tr

namespace Go.Proofs.YthjdlanmfiofdaaDoor.ts
open Go Go.Nx Go.Proofs.YthjdlanmfiofdaaDoor.pk Go.Proofs.YthjdlanmfiofdaaDoor.ln Go.Proofs.YthjdlanmfiofdaaDoor.hd Go.Proofs.YthjdlanmfiofdaaDoor.tr

/-- One of several trees, by what came in. -/
theorem Known_pick {P : Program} {gl : List Nat} {f : FuncId} {ι : Type} {T : ι → Con} (h : ∀ i, Known P gl f (T i)) (p : List NV → List Reg → ι) : Known P gl f fun args regs => T (p args regs) args regs :=
  ⟨(h (p [] [])).goes, fun args regs R hR => (h (p args regs)).sound args regs R hR⟩
def hasB (k : Int) : Bool := k == 3 || (k == 5 || k == 6)
theorem thas_tree (k : Int) (R : Out → Prop) : (t_thas [.c (.i .i64 k)] []).run R = sel (k == 3) (R (oB true)) (sel (k == 5) (R (oB true)) (R (oB (k == 6)))) := by kernel_rfl
noncomputable def tHasV : Con := fun args regs => match args, regs with
  | [.c (.i .i64 k)], [] => .ret (oB (hasB k))
  | _, _ => .fail
set_option maxRecDepth 100000 in
theorem kHasV : Known Tryd.prog GL 79 tHasV := by
  refine k_thas.less fun args regs R h => Box.out ?_
  unfold tHasV at h
  split at h
  case h_2 => exact h.elim
  rename_i k
  have h2 : R (oB (hasB k)) := h
  clear h
  refine Box.of_eq (thas_tree k R) ?_
  unfold hasB at h2
  cases h1 : (k == 3) with
  | true => rw [h1] at h2; exact selT rfl h2
  | false =>
    rw [h1] at h2
    refine selF rfl ?_
    cases h3 : (k == 5) with
    | true => rw [h3] at h2; exact selT rfl h2
    | false => rw [h3] at h2; exact selF rfl h2
noncomputable def t_rtnum : Con := fun args regs => nfun Tryd.prog GL (fun _ => Option.none) [] Tryd.f46 args regs
theorem k_rtnum : Known Tryd.prog GL 46 t_rtnum := known_inl Tryd.func46 rfl (by kernel_rfl) mixed con_none (by kernel_rfl)
noncomputable def t_rtof : Con := fun args regs => nfun Tryd.prog GL (fun _ => Option.none) [] Tryd.f47 args regs
theorem k_rtof : Known Tryd.prog GL 47 t_rtof := known_inl Tryd.func47 rfl (by kernel_rfl) mixed con_none (by kernel_rfl)
noncomputable def c_rregion : FuncId → Option Con := conOf [(82, ham.tGetV)]
theorem kc_rregion : ∀ f T, c_rregion f = some T → Known Tryd.prog GL f T := (Knowns.cons (known_gl ham.kGetRV) .nil).get
noncomputable def t_rregion : Con := fun args regs => nfun Tryd.prog GL c_rregion [] Tryd.f42 args regs
theorem k_rregion : Known Tryd.prog GL 42 t_rregion := known_inl Tryd.func42 rfl (by kernel_rfl) mixed kc_rregion (by kernel_rfl)
noncomputable def c_rreadT : FuncId → Option Con := conOf [(82, ham.tGetV), (47, t_rtof)]
theorem kc_rreadT : ∀ f T, c_rreadT f = some T → Known Tryd.prog GL f T := (Knowns.cons (known_gl ham.kGetRV) (.cons k_rtof .nil)).get
noncomputable def X_rreadT : Cx := { P := Tryd.prog, con := c_rreadT, glob := GL, m := 0, loops := [] }
noncomputable def t_rreadT : Con := fun args regs => if regs.length = 0 then nfun Tryd.prog GL c_rreadT [(0, [1, 5, 6, 7], unroll X_rreadT 0 [1, 5, 6, 7] [5, 6] (bodyLoop Tryd.f40 0) 14)] Tryd.f40 args regs else .fail
theorem k_rreadT : Known Tryd.prog GL 40 t_rreadT := known_loops 0 Tryd.func40 rfl (by kernel_rfl) mixed kc_rreadT (LAll.one (id := 0) (body := bodyLoop Tryd.f40 0) (by kernel_rfl) rfl (unroll_ok (X := X_rreadT) kc_rreadT mixed (LAll.none (by kernel_rfl)) [1, 5, 6, 7] [5, 6] 14))
noncomputable def c_rreadE : FuncId → Option Con := conOf [(82, ham.tGetV), (47, t_rtof)]
theorem kc_rreadE : ∀ f T, c_rreadE f = some T → Known Tryd.prog GL f T := (Knowns.cons (known_gl ham.kGetRV) (.cons k_rtof .nil)).get
noncomputable def X_rreadE : Cx := { P := Tryd.prog, con := c_rreadE, glob := GL, m := 0, loops := [] }
noncomputable def t_rreadE : Con := fun args regs => if regs.length = 0 then nfun Tryd.prog GL c_rreadE [(0, [1, 5, 6, 7], unroll X_rreadE 0 [1, 5, 6, 7] [5, 6] (bodyLoop Tryd.f40 0) 0)] Tryd.f40 args regs else .fail
theorem k_rreadE : Known Tryd.prog GL 40 t_rreadE := known_loops 0 Tryd.func40 rfl (by kernel_rfl) mixed kc_rreadE (LAll.one (id := 0) (body := bodyLoop Tryd.f40 0) (by kernel_rfl) rfl (unroll_ok (X := X_rreadE) kc_rreadE mixed (LAll.none (by kernel_rfl)) [1, 5, 6, 7] [5, 6] 0))
noncomputable def c_treadG : FuncId → Option Con := conOf [(79, tHasV), (81, tNumbers), (35, t_tof)]
theorem kc_treadG : ∀ f T, c_treadG f = some T → Known Tryd.prog GL f T := (Knowns.cons kHasV (.cons kNumbers (.cons k_tof .nil))).get
noncomputable def X_treadG : Cx := { P := Tryd.prog, con := c_treadG, glob := GL, m := 0, loops := [] }
noncomputable def t_treadG : Con := fun args regs => if regs.length = 0 then nfun Tryd.prog GL c_treadG [(0, [6, 7, 20, 21, 22], unroll X_treadG 0 [6, 7, 20, 21, 22] [6, 7] (bodyLoop Tryd.f38 0) 14)] Tryd.f38 args regs else .fail
theorem k_treadG : Known Tryd.prog GL 38 t_treadG := known_loops 0 Tryd.func38 rfl (by kernel_rfl) mixed kc_treadG (LAll.one (id := 0) (body := bodyLoop Tryd.f38 0) (by kernel_rfl) rfl (unroll_ok (X := X_treadG) kc_treadG mixed (LAll.none (by kernel_rfl)) [6, 7, 20, 21, 22] [6, 7] 14))
noncomputable def c_treadE : FuncId → Option Con := conOf [(79, tHasV), (81, tNumbers), (35, t_tof)]
theorem kc_treadE : ∀ f T, c_treadE f = some T → Known Tryd.prog GL f T := (Knowns.cons kHasV (.cons kNumbers (.cons k_tof .nil))).get
noncomputable def X_treadE : Cx := { P := Tryd.prog, con := c_treadE, glob := GL, m := 0, loops := [] }
noncomputable def t_treadE : Con := fun args regs => if regs.length = 0 then nfun Tryd.prog GL c_treadE [(0, [6, 7, 20, 21, 22], unroll X_treadE 0 [6, 7, 20, 21, 22] [6, 7] (bodyLoop Tryd.f38 0) 0)] Tryd.f38 args regs else .fail
theorem k_treadE : Known Tryd.prog GL 38 t_treadE := known_loops 0 Tryd.func38 rfl (by kernel_rfl) mixed kc_treadE (LAll.one (id := 0) (body := bodyLoop Tryd.f38 0) (by kernel_rfl) rfl (unroll_ok (X := X_treadE) kc_treadE mixed (LAll.none (by kernel_rfl)) [6, 7, 20, 21, 22] [6, 7] 0))
noncomputable def c_rpacked : FuncId → Option Con := conOf [(73, tRPut)]
theorem kc_rpacked : ∀ f T, c_rpacked f = some T → Known Tryd.prog GL f T := (Knowns.cons (known_gl kRPut) .nil).get
noncomputable def t_rpacked : Con := fun args regs => nfun Tryd.prog GL c_rpacked [] Tryd.f75 args regs
theorem k_rpacked : Known Tryd.prog GL 75 t_rpacked := known_inl Tryd.func75 rfl (by kernel_rfl) mixed kc_rpacked (by kernel_rfl)
noncomputable def c_rtb : FuncId → Option Con := conOf [(73, tRPut), (83, ham.tPutV), (46, t_rtnum), (75, t_rpacked)]
theorem kc_rtb : ∀ f T, c_rtb f = some T → Known Tryd.prog GL f T := (Knowns.cons (known_gl kRPut) (.cons (known_gl ham.kPutRV) (.cons k_rtnum (.cons k_rpacked .nil)))).get
noncomputable def X_rtb : Cx := { P := Tryd.prog, con := c_rtb, glob := GL, m := 0, loops := [] }
noncomputable def t_rtb : Con := fun args regs => if regs.length = 0 then nfun Tryd.prog GL c_rtb [(0, [0, 1, 3, 10, 11], unroll X_rtb 0 [0, 1, 3, 10, 11] [0, 1, 10] (bodyLoop Tryd.f44 0) 14)] Tryd.f44 args regs else .fail
theorem k_rtb : Known Tryd.prog GL 44 t_rtb := known_loops 0 Tryd.func44 rfl (by kernel_rfl) mixed kc_rtb (LAll.one (id := 0) (body := bodyLoop Tryd.f44 0) (by kernel_rfl) rfl (unroll_ok (X := X_rtb) kc_rtb mixed (LAll.none (by kernel_rfl)) [0, 1, 3, 10, 11] [0, 1, 10] 14))
noncomputable def c_rtbE : FuncId → Option Con := conOf [(73, tRPut), (83, ham.tPutV), (46, t_rtnum), (75, t_rpacked)]
theorem kc_rtbE : ∀ f T, c_rtbE f = some T → Known Tryd.prog GL f T := (Knowns.cons (known_gl kRPut) (.cons (known_gl ham.kPutRV) (.cons k_rtnum (.cons k_rpacked .nil)))).get
noncomputable def X_rtbE : Cx := { P := Tryd.prog, con := c_rtbE, glob := GL, m := 0, loops := [] }
noncomputable def t_rtbE : Con := fun args regs => if regs.length = 0 then nfun Tryd.prog GL c_rtbE [(0, [0, 1, 3, 10, 11], unroll X_rtbE 0 [0, 1, 3, 10, 11] [0, 1, 10] (bodyLoop Tryd.f44 0) 0)] Tryd.f44 args regs else .fail
theorem k_rtbE : Known Tryd.prog GL 44 t_rtbE := known_loops 0 Tryd.func44 rfl (by kernel_rfl) mixed kc_rtbE (LAll.one (id := 0) (body := bodyLoop Tryd.f44 0) (by kernel_rfl) rfl (unroll_ok (X := X_rtbE) kc_rtbE mixed (LAll.none (by kernel_rfl)) [0, 1, 3, 10, 11] [0, 1, 10] 0))
noncomputable def c_tbG : FuncId → Option Con := conOf [(68, t_mag), (79, tHasV), (59, tKind), (69, t_row7), (45, t_tnum), (80, ham.tPutV), (28, tBytes)]
theorem kc_tbG : ∀ f T, c_tbG f = some T → Known Tryd.prog GL f T := (Knowns.cons kg_mag (.cons kHasV (.cons kg_kind (.cons k_row7 (.cons k_tnum (.cons (known_gl ham.kPutV) (.cons kBytes .nil))))))).get
noncomputable def X_tbG : Cx := { P := Tryd.prog, con := c_tbG, glob := GL, m := 0, loops := [] }
noncomputable def t_tbG : Con := fun args regs => if regs.length = 0 then nfun Tryd.prog GL c_tbG [(1, [0, 1, 10, 41, 42, 43], unroll X_tbG 1 [0, 1, 10, 41, 42, 43] [0, 1, 10] (bodyLoop Tryd.f36 1) 14)] Tryd.f36 args regs else .fail
theorem k_tbG : Known Tryd.prog GL 36 t_tbG := known_loops 0 Tryd.func36 rfl (by kernel_rfl) mixed kc_tbG (LAll.one (id := 1) (body := bodyLoop Tryd.f36 1) (by kernel_rfl) rfl (unroll_ok (X := X_tbG) kc_tbG mixed (LAll.none (by kernel_rfl)) [0, 1, 10, 41, 42, 43] [0, 1, 10] 14))
noncomputable def c_tbE : FuncId → Option Con := conOf [(68, t_mag), (79, tHasV), (59, tKind), (69, t_row7), (45, t_tnum), (80, ham.tPutV), (28, tBytes)]
theorem kc_tbE : ∀ f T, c_tbE f = some T → Known Tryd.prog GL f T := (Knowns.cons kg_mag (.cons kHasV (.cons kg_kind (.cons k_row7 (.cons k_tnum (.cons (known_gl ham.kPutV) (.cons kBytes .nil))))))).get
noncomputable def X_tbE : Cx := { P := Tryd.prog, con := c_tbE, glob := GL, m := 0, loops := [] }
noncomputable def t_tbE : Con := fun args regs => if regs.length = 0 then nfun Tryd.prog GL c_tbE [(1, [0, 1, 10, 41, 42, 43], unroll X_tbE 1 [0, 1, 10, 41, 42, 43] [0, 1, 10] (bodyLoop Tryd.f36 1) 0)] Tryd.f36 args regs else .fail
theorem k_tbE : Known Tryd.prog GL 36 t_tbE := known_loops 0 Tryd.func36 rfl (by kernel_rfl) mixed kc_tbE (LAll.one (id := 1) (body := bodyLoop Tryd.f36 1) (by kernel_rfl) rfl (unroll_ok (X := X_tbE) kc_tbE mixed (LAll.none (by kernel_rfl)) [0, 1, 10, 41, 42, 43] [0, 1, 10] 0))
noncomputable def X_sbools : Cx := { P := Tryd.prog, con := (fun _ => Option.none), glob := GL, m := 0, loops := [] }
noncomputable def t_sbools : Con := fun args regs => if regs.length = 0 then nfun Tryd.prog GL (fun _ => Option.none) [(0, [0, 1, 5], unroll X_sbools 0 [0, 1, 5] [4] (bodyLoop Tryd.f43 0) 14)] Tryd.f43 args regs else .fail
theorem k_sbools : Known Tryd.prog GL 43 t_sbools := known_loops 0 Tryd.func43 rfl (by kernel_rfl) mixed con_none (LAll.one (id := 0) (body := bodyLoop Tryd.f43 0) (by kernel_rfl) rfl (unroll_ok (X := X_sbools) con_none mixed (LAll.none (by kernel_rfl)) [0, 1, 5] [4] 14))
noncomputable def t_tother : Con := fun args regs => nfun Tryd.prog GL (fun _ => Option.none) [] Tryd.f41 args regs
theorem k_tother : Known Tryd.prog GL 41 t_tother := known_inl Tryd.func41 rfl (by kernel_rfl) mixed con_none (by kernel_rfl)
/-! ### bytes -/
theorem tbG_tree (mag row code : Int) (r0 r1 r2 r3 r4 r5 r6 r7 r8 r9 r10 r11 r12 : List Sc) (R : Out → Prop) : (t_tbG [.c (.i .i64 mag), .c (.i .i64 row), .c (.i .i64 code), .c (.lr k3 [r0, r1, r2, r3, r4, r5, r6, r7, r8, r9, r10, r11, r12])] []).run R =
    sel (decide (mag ≥ 1)) (sel (!decide (mag ≤ 8)) (R (oEr 3)) (sel (!hasB (kindF row)) (R (oEr 3)) (sel (decide (code < 0)) (R (oEr 3)) (sel (decide (code > 15)) (R (oEr 3)) (In64 (nR r0) ∧ (In64 (nR r1) ∧ (In64 (nR r2) ∧ (In64 (nR r3) ∧ (In64 (nR r4) ∧ (In64 (nR r5) ∧ (In64 (nR r6) ∧ (In64 (nR r7) ∧ (In64 (nR r8) ∧ (In64 (nR r9) ∧ (In64 (nR r10) ∧ (In64 (nR r11) ∧ (In64 (nR r12) ∧ sel (okMR mag row) (R (oBy mag row (LT code r0 r1 r2 r3 r4 r5 r6 r7 r8 r9 r10 r11 r12))) (R (oEr 3))))))))))))))))))) (R (oEr 3)) := by kernel_rfl
theorem tbE_tree (mag row code : Int) (rows : List (List Sc)) (R : Out → Prop) : (t_tbE [.c (.i .i64 mag), .c (.i .i64 row), .c (.i .i64 code), .c (.lr k3 rows)] []).run R =
    sel (decide (mag ≥ 1)) (sel (!decide (mag ≤ 8)) (R (oEr 3)) (sel (!hasB (kindF row)) (R (oEr 3)) (sel (decide (code < 0)) (R (oEr 3)) (sel (decide (code > 15)) (R (oEr 3)) (sel ((rows.length : Int) != 13) (R (oEr 0)) False))))) (R (oEr 3)) := by kernel_rfl
def okTB (mag row code : Int) : Bool := decide (1 ≤ mag ∧ mag ≤ 8 ∧ 0 ≤ code ∧ code ≤ 15) && (row == 26 || (row == 28 || row == 29))
noncomputable def LTg (code : Int) (rows : List (List Sc)) : List Int := LT code (rows.getD 0 []) (rows.getD 1 []) (rows.getD 2 []) (rows.getD 3 []) (rows.getD 4 []) (rows.getD 5 []) (rows.getD 6 []) (rows.getD 7 []) (rows.getD 8 []) (rows.getD 9 []) (rows.getD 10 []) (rows.getD 11 []) (rows.getD 12 [])
noncomputable def tTBg : Con := fun args regs => match args, regs with
  | [.c (.i .i64 mag), .c (.i .i64 row), .c (.i .i64 code), .c (.lr [.i .i64, .i .i64, .i .i64] rows)], [] => .br (okTB mag row code) (.br (decide (rows.length = 13)) (.ret (oBy mag row (LTg code rows))) (.ret (oEr 0))) (.ret (oEr 3))
  | _, _ => .fail
theorem has_row (row : Int) : hasB (kindF row) = (row == 26 || (row == 28 || row == 29)) := by
  unfold kindF
  by_cases h0 : row = 0
  · subst h0; rfl
  · rw [dF h0]
    by_cases h1 : row ≥ 1 ∧ row ≤ 24
    · rw [dT h1.1, dT h1.2, show (row == 26) = false by rw [beq_eq_false_iff_ne]; omega, show (row == 28) = false by rw [beq_eq_false_iff_ne]; omega, show (row == 29) = false by rw [beq_eq_false_iff_ne]; omega]
      rfl
    · have e : (decide (row ≥ 1) && decide (row ≤ 24)) = false := by
        rw [← Bool.not_eq_true, Bool.and_eq_true, decide_eq_true_eq, decide_eq_true_eq]
        exact h1
      rw [e]
      by_cases h2 : row ≥ 26 ∧ row ≤ 30
      · rw [dT h2.1, dT h2.2]
        have h5 : row = 26 ∨ row = 27 ∨ row = 28 ∨ row = 29 ∨ row = 30 := by omega
        rcases h5 with rfl | rfl | rfl | rfl | rfl <;> rfl
      · have e : (decide (row ≥ 26) && decide (row ≤ 30)) = false := by
          rw [← Bool.not_eq_true, Bool.and_eq_true, decide_eq_true_eq, decide_eq_true_eq]
          exact h2
        rw [e, show (row == 26) = false by rw [beq_eq_false_iff_ne]; omega, show (row == 28) = false by rw [beq_eq_false_iff_ne]; omega, show (row == 29) = false by rw [beq_eq_false_iff_ne]; omega]
        rfl
theorem rng_in {mag row code : Int} {E A B : Prop} (h : sel (okTB mag row code) A E) (hA : 1 ≤ mag ∧ mag ≤ 8 → 0 ≤ code ∧ code ≤ 15 → row = 26 ∨ row = 28 ∨ row = 29 → A → B) : sel (decide (mag ≥ 1)) (sel (!decide (mag ≤ 8)) E (sel (!hasB (kindF row)) E (sel (decide (code < 0)) E (sel (decide (code > 15)) E B)))) E := by
  rw [has_row]
  unfold okTB at h
  by_cases hc : 1 ≤ mag ∧ mag ≤ 8 ∧ 0 ≤ code ∧ code ≤ 15
  · rw [dT hc, Bool.true_and] at h
    refine selT (dT (by omega)) (selF (by simp; omega) ?_)
    cases hr : (row == 26 || (row == 28 || row == 29)) with
    | false => rw [hr] at h; exact selT rfl h
    | true =>
      rw [hr] at h
      have h3 : row = 26 ∨ row = 28 ∨ row = 29 := by simpa using hr
      exact selF rfl (selF (dF (by omega)) (selF (dF (by omega)) (hA ⟨hc.1, hc.2.1⟩ hc.2.2 h3 h)))
  · rw [dF hc, Bool.false_and] at h
    have h : E := h
    refine sel_by (fun h1 => ?_) fun _ => h
    by_cases h2 : mag ≤ 8
    · refine selF (by simp [h2]) ?_
      cases (row == 26 || (row == 28 || row == 29)) with
      | false => exact selT rfl h
      | true => exact selF rfl (sel_by (fun _ => h) fun h3 => sel_by (fun _ => h) fun h4 => (hc ⟨h1, h2, by omega, by omega⟩).elim)
    · exact selT (by simp; omega) h
theorem cons_of {α : Type} {l : List α} {n : Nat} (h : l.length = n + 1) : ∃ a t, l = a :: t ∧ t.length = n := by
  cases l with
  | nil => exact absurd h (by simp)
  | cons a t => exact ⟨a, t, rfl, by simpa using h⟩
theorem list13 {α : Type} {rows : List α} (h : rows.length = 13) : ∃ r0 r1 r2 r3 r4 r5 r6 r7 r8 r9 r10 r11 r12, rows = [r0, r1, r2, r3, r4, r5, r6, r7, r8, r9, r10, r11, r12] := by
  obtain ⟨r0, l1, hl0, h⟩ := cons_of h
  obtain ⟨r1, l2, hl1, h⟩ := cons_of h
  obtain ⟨r2, l3, hl2, h⟩ := cons_of h
  obtain ⟨r3, l4, hl3, h⟩ := cons_of h
  obtain ⟨r4, l5, hl4, h⟩ := cons_of h
  obtain ⟨r5, l6, hl5, h⟩ := cons_of h
  obtain ⟨r6, l7, hl6, h⟩ := cons_of h
  obtain ⟨r7, l8, hl7, h⟩ := cons_of h
  obtain ⟨r8, l9, hl8, h⟩ := cons_of h
  obtain ⟨r9, l10, hl9, h⟩ := cons_of h
  obtain ⟨r10, l11, hl10, h⟩ := cons_of h
  obtain ⟨r11, l12, hl11, h⟩ := cons_of h
  obtain ⟨r12, l13, hl12, h⟩ := cons_of h
  have h13 := List.eq_nil_of_length_eq_zero h
  exact ⟨r0, r1, r2, r3, r4, r5, r6, r7, r8, r9, r10, r11, r12, by rw [hl0, hl1, hl2, hl3, hl4, hl5, hl6, hl7, hl8, hl9, hl10, hl11, hl12, h13]⟩
/-- Two trees: what either one gives. -/
theorem Known_or {P : Program} {gl : List Nat} {f : FuncId} {A B T : Con} (ha : Known P gl f A) (hb : Known P gl f B) (h : ∀ args regs R, (T args regs).run R → Box ((A args regs).run R) ∨ Box ((B args regs).run R)) : Known P gl f T :=
  ⟨ha.goes, fun args regs R hR => (h args regs R hR).elim (fun x => ha.sound args regs R x.out) fun x => hb.sound args regs R x.out⟩
theorem tbgG_in {mag row code : Int} {rows : List (List Sc)} {R : Out → Prop} (hl : rows.length = 13) (h : sel (okTB mag row code) (R (oBy mag row (LTg code rows))) (R (oEr 3))) : Box ((t_tbG [.c (.i .i64 mag), .c (.i .i64 row), .c (.i .i64 code), .c (.lr k3 rows)] []).run R) := by
  obtain ⟨r0, r1, r2, r3, r4, r5, r6, r7, r8, r9, r10, r11, r12, rfl⟩ := list13 hl
  refine Box.of_eq (tbG_tree mag row code r0 r1 r2 r3 r4 r5 r6 r7 r8 r9 r10 r11 r12 R) (rng_in h fun hm hc hr h => ?_)
  have h : R (oBy mag row (LT code r0 r1 r2 r3 r4 r5 r6 r7 r8 r9 r10 r11 r12)) := h
  exact ⟨nR_in r0, nR_in r1, nR_in r2, nR_in r3, nR_in r4, nR_in r5, nR_in r6, nR_in r7, nR_in r8, nR_in r9, nR_in r10, nR_in r11, nR_in r12, selT (dT ⟨hm.1, hm.2, by omega, by omega⟩) h⟩
theorem tbgE_in {mag row code : Int} {rows : List (List Sc)} {R : Out → Prop} (hl : rows.length ≠ 13) (h : sel (okTB mag row code) (R (oEr 0)) (R (oEr 3))) : Box ((t_tbE [.c (.i .i64 mag), .c (.i .i64 row), .c (.i .i64 code), .c (.lr k3 rows)] []).run R) :=
  Box.of_eq (tbE_tree mag row code rows R) (rng_in h fun _ _ _ h => selT (by rw [bne_iff_ne]; omega) h)
theorem tbg_in {mag row code : Int} {rows : List (List Sc)} {R : Out → Prop} (h : sel (okTB mag row code) (sel (decide (rows.length = 13)) (R (oBy mag row (LTg code rows))) (R (oEr 0))) (R (oEr 3))) : Box ((t_tbG [.c (.i .i64 mag), .c (.i .i64 row), .c (.i .i64 code), .c (.lr k3 rows)] []).run R) ∨ Box ((t_tbE [.c (.i .i64 mag), .c (.i .i64 row), .c (.i .i64 code), .c (.lr k3 rows)] []).run R) := by
  by_cases hl : rows.length = 13
  · rw [dT hl] at h
    exact .inl (tbgG_in hl h)
  · rw [dF hl] at h
    exact .inr (tbgE_in hl h)
set_option maxRecDepth 100000 in
theorem kTBg : Known Tryd.prog GL 36 tTBg := by
  refine Known_or k_tbG k_tbE fun args regs R h => ?_
  unfold tTBg at h
  split at h
  case h_2 => exact h.elim
  exact tbg_in h
end Go.Proofs.YthjdlanmfiofdaaDoor.ts

namespace Go.Proofs.YthjdlanmfiofdaaDoor.ts
open Go Go.Nx Go.Proofs.YthjdlanmfiofdaaDoor.pk Go.Proofs.YthjdlanmfiofdaaDoor.ln Go.Proofs.YthjdlanmfiofdaaDoor.hd Go.Proofs.YthjdlanmfiofdaaDoor.tr

noncomputable def rad9 (mag row : Int) : Int := bits .or .i64 (mag.tmod 8) (IntKind.i64.wrap (bits .and .i64 row 1 * 8))
def in16 (n : Int) : Prop := 0 ≤ n ∧ n < 16
noncomputable def oRBy (mag row : Int) (ds : List Int) : Out := ⟨.tu [.c (.h 0 0 (2 + ds.length)), .c (.i .i64 0)], [some ⟨1, 5, .ints .u8 (adr0 mag row :: adr1 row :: ds)⟩]⟩
def oRE (n : Int) : Out := ⟨.tu [.c .sn, .c (.i .i64 n)], []⟩
theorem rtb_26 (mag code : Int) (r0 r1 r2 r3 r4 r5 r6 r7 r8 r9 r10 r11 r12 : List Sc) (R : Out → Prop) : (t_rtb [.c (.i .i64 mag), .c (.i .i64 26), .c (.i .i64 code), .c (.lr k3 [r0, r1, r2, r3, r4, r5, r6, r7, r8, r9, r10, r11, r12])] []).run R =
    sel (decide (mag < 1)) (R (oRE 101)) (sel (decide (mag > 8)) (R (oRE 101)) (sel (decide (code < 0)) (R (oRE 101)) (sel (decide (code > 15)) (R (oRE 101)) (in16 code ∧ (In64 (nR r0) ∧ (In64 (nR r1) ∧ (In64 (nR r2) ∧ (In64 (nR r3) ∧ (In64 (nR r4) ∧ (In64 (nR r5) ∧ (In64 (nR r6) ∧ (In64 (nR r7) ∧ (In64 (nR r8) ∧ (In64 (nR r9) ∧ (In64 (nR r10) ∧ (In64 (nR r11) ∧ (In64 (nR r12) ∧ (in16 (rad9 mag 26) ∧ (in16 (shrv .i64 26 1) ∧ R (oRBy mag 26 (LT code r0 r1 r2 r3 r4 r5 r6 r7 r8 r9 r10 r11 r12))))))))))))))))))))) := by kernel_rfl
theorem rtb_28 (mag code : Int) (r0 r1 r2 r3 r4 r5 r6 r7 r8 r9 r10 r11 r12 : List Sc) (R : Out → Prop) : (t_rtb [.c (.i .i64 mag), .c (.i .i64 28), .c (.i .i64 code), .c (.lr k3 [r0, r1, r2, r3, r4, r5, r6, r7, r8, r9, r10, r11, r12])] []).run R =
    sel (decide (mag < 1)) (R (oRE 101)) (sel (decide (mag > 8)) (R (oRE 101)) (sel (decide (code < 0)) (R (oRE 101)) (sel (decide (code > 15)) (R (oRE 101)) (in16 code ∧ (In64 (nR r0) ∧ (In64 (nR r1) ∧ (In64 (nR r2) ∧ (In64 (nR r3) ∧ (In64 (nR r4) ∧ (In64 (nR r5) ∧ (In64 (nR r6) ∧ (In64 (nR r7) ∧ (In64 (nR r8) ∧ (In64 (nR r9) ∧ (In64 (nR r10) ∧ (In64 (nR r11) ∧ (In64 (nR r12) ∧ (in16 (rad9 mag 28) ∧ (in16 (shrv .i64 28 1) ∧ R (oRBy mag 28 (LT code r0 r1 r2 r3 r4 r5 r6 r7 r8 r9 r10 r11 r12))))))))))))))))))))) := by kernel_rfl
theorem rtb_29 (mag code : Int) (r0 r1 r2 r3 r4 r5 r6 r7 r8 r9 r10 r11 r12 : List Sc) (R : Out → Prop) : (t_rtb [.c (.i .i64 mag), .c (.i .i64 29), .c (.i .i64 code), .c (.lr k3 [r0, r1, r2, r3, r4, r5, r6, r7, r8, r9, r10, r11, r12])] []).run R =
    sel (decide (mag < 1)) (R (oRE 101)) (sel (decide (mag > 8)) (R (oRE 101)) (sel (decide (code < 0)) (R (oRE 101)) (sel (decide (code > 15)) (R (oRE 101)) (in16 code ∧ (In64 (nR r0) ∧ (In64 (nR r1) ∧ (In64 (nR r2) ∧ (In64 (nR r3) ∧ (In64 (nR r4) ∧ (In64 (nR r5) ∧ (In64 (nR r6) ∧ (In64 (nR r7) ∧ (In64 (nR r8) ∧ (In64 (nR r9) ∧ (In64 (nR r10) ∧ (In64 (nR r11) ∧ (In64 (nR r12) ∧ (in16 (rad9 mag 29) ∧ (in16 (shrv .i64 29 1) ∧ R (oRBy mag 29 (LT code r0 r1 r2 r3 r4 r5 r6 r7 r8 r9 r10 r11 r12))))))))))))))))))))) := by kernel_rfl
noncomputable def rtA (code : Int) (rows : List (List Sc)) (R : Out → Prop) : Prop := (sel (decide (code < 0)) (R (oRE 101)) (sel (decide (code > 15)) (R (oRE 101)) (sel ((rows.length : Int) != 13) (R (oRE 102)) (in16 code ∧ False))))
theorem rtbE_tree (mag row code : Int) (rows : List (List Sc)) (R : Out → Prop) : (t_rtbE [.c (.i .i64 mag), .c (.i .i64 row), .c (.i .i64 code), .c (.lr k3 rows)] []).run R =
    sel (decide (mag < 1)) (R (oRE 101)) (sel (decide (mag > 8)) (R (oRE 101)) (sel (row != 26) (sel (row != 28) (sel (row != 29) (R (oRE 101)) (rtA code rows R)) (rtA code rows R)) (rtA code rows R))) := by kernel_rfl
noncomputable def tRTBg : Con := fun args regs => match args, regs with
  | [.c (.i .i64 mag), .c (.i .i64 row), .c (.i .i64 code), .c (.lr [.i .i64, .i .i64, .i .i64] rows)], [] => .br (okTB mag row code) (.br (decide (rows.length = 13)) (.ret (oRBy mag row (LTg code rows))) (.ret (oRE 102))) (.ret (oRE 101))
  | _, _ => .fail
theorem rad_all : ∀ g < 8, in16 (rad9 (Int.ofNat g + 1) 26) ∧ in16 (rad9 (Int.ofNat g + 1) 28) ∧ in16 (rad9 (Int.ofNat g + 1) 29) := by unfold in16; decide +kernel
theorem rad_in (mg : Int) (hg : 1 ≤ mg ∧ mg ≤ 8) : in16 (rad9 mg 26) ∧ in16 (rad9 mg 28) ∧ in16 (rad9 mg 29) := by
  have := rad_all (mg - 1).toNat (by omega)
  have e1 : Int.ofNat (mg - 1).toNat + 1 = mg := by show (((mg - 1).toNat : Nat) : Int) + 1 = mg; omega
  rw [e1] at this
  exact this
theorem okTB_in {mag row code : Int} (h : okTB mag row code = true) : (1 ≤ mag ∧ mag ≤ 8) ∧ (0 ≤ code ∧ code ≤ 15) ∧ (row = 26 ∨ row = 28 ∨ row = 29) := by
  unfold okTB at h
  simp only [Bool.and_eq_true, decide_eq_true_eq, Bool.or_eq_true, beq_iff_eq] at h
  exact ⟨⟨h.1.1, h.1.2.1⟩, h.1.2.2, h.2⟩
theorem okTB_no {mag row code : Int} (h : okTB mag row code = false) : ¬ ((1 ≤ mag ∧ mag ≤ 8) ∧ (0 ≤ code ∧ code ≤ 15) ∧ (row = 26 ∨ row = 28 ∨ row = 29)) := by
  intro hc
  rw [← Bool.not_eq_true] at h
  refine h ?_
  unfold okTB
  simp only [Bool.and_eq_true, decide_eq_true_eq, Bool.or_eq_true, beq_iff_eq]
  exact ⟨⟨hc.1.1, hc.1.2, hc.2.1⟩, hc.2.2⟩
theorem low_in {mag code : Int} {E B : Prop} (hm : 1 ≤ mag ∧ mag ≤ 8) (hc : 0 ≤ code ∧ code ≤ 15) (h : B) : sel (decide (mag < 1)) E (sel (decide (mag > 8)) E (sel (decide (code < 0)) E (sel (decide (code > 15)) E B))) :=
  selF (dF (by omega)) (selF (dF (by omega)) (selF (dF (by omega)) (selF (dF (by omega)) h)))
theorem rtE_in {mag row code : Int} {rows : List (List Sc)} {R : Out → Prop} (hl : rows.length ≠ 13) (hk : okTB mag row code = true) (h : R (oRE 102)) : Box ((t_rtbE [.c (.i .i64 mag), .c (.i .i64 row), .c (.i .i64 code), .c (.lr k3 rows)] []).run R) := by
  refine Box.of_eq (rtbE_tree mag row code rows R) ?_
  obtain ⟨hm, hc, hr⟩ := okTB_in hk
  have ha : rtA code rows R := selF (dF (by omega)) (selF (dF (by omega)) (selT (by rw [bne_iff_ne]; omega) h))
  rcases hr with rfl | rfl | rfl
  · exact selF (dF (by omega)) (selF (dF (by omega)) (selF rfl ha))
  · exact selF (dF (by omega)) (selF (dF (by omega)) (selT rfl (selF rfl ha)))
  · exact selF (dF (by omega)) (selF (dF (by omega)) (selT rfl (selT rfl (selF rfl ha))))
theorem rtG_in {mag row code : Int} {rows : List (List Sc)} {R : Out → Prop} (hl : rows.length = 13) (hk : okTB mag row code = true) (h : R (oRBy mag row (LTg code rows))) : Box ((t_rtb [.c (.i .i64 mag), .c (.i .i64 row), .c (.i .i64 code), .c (.lr k3 rows)] []).run R) := by
  obtain ⟨r0, r1, r2, r3, r4, r5, r6, r7, r8, r9, r10, r11, r12, rfl⟩ := list13 hl
  obtain ⟨hm, hc, hr⟩ := okTB_in hk
  have h : R (oRBy mag row (LT code r0 r1 r2 r3 r4 r5 r6 r7 r8 r9 r10 r11 r12)) := h
  have hg := rad_in mag hm
  have hc' : in16 code := ⟨hc.1, by omega⟩
  rcases hr with rfl | rfl | rfl
  · exact Box.of_eq (rtb_26 mag code r0 r1 r2 r3 r4 r5 r6 r7 r8 r9 r10 r11 r12 R) (low_in hm hc ⟨hc', nR_in r0, nR_in r1, nR_in r2, nR_in r3, nR_in r4, nR_in r5, nR_in r6, nR_in r7, nR_in r8, nR_in r9, nR_in r10, nR_in r11, nR_in r12, hg.1, by unfold in16; decide +kernel, h⟩)
  · exact Box.of_eq (rtb_28 mag code r0 r1 r2 r3 r4 r5 r6 r7 r8 r9 r10 r11 r12 R) (low_in hm hc ⟨hc', nR_in r0, nR_in r1, nR_in r2, nR_in r3, nR_in r4, nR_in r5, nR_in r6, nR_in r7, nR_in r8, nR_in r9, nR_in r10, nR_in r11, nR_in r12, hg.2.1, by unfold in16; decide +kernel, h⟩)
  · exact Box.of_eq (rtb_29 mag code r0 r1 r2 r3 r4 r5 r6 r7 r8 r9 r10 r11 r12 R) (low_in hm hc ⟨hc', nR_in r0, nR_in r1, nR_in r2, nR_in r3, nR_in r4, nR_in r5, nR_in r6, nR_in r7, nR_in r8, nR_in r9, nR_in r10, nR_in r11, nR_in r12, hg.2.2, by unfold in16; decide +kernel, h⟩)
theorem rtN_in {mag row code : Int} {rows : List (List Sc)} {R : Out → Prop} (hk : okTB mag row code = false) (h : R (oRE 101)) : Box ((t_rtbE [.c (.i .i64 mag), .c (.i .i64 row), .c (.i .i64 code), .c (.lr k3 rows)] []).run R) := by
  refine Box.of_eq (rtbE_tree mag row code rows R) ?_
  have hn := okTB_no hk
  refine sel_by (fun _ => h) fun h1 => sel_by (fun _ => h) fun h2 => ?_
  have ha : (row = 26 ∨ row = 28 ∨ row = 29) → rtA code rows R := fun hr => sel_by (fun _ => h) fun h3 => sel_by (fun _ => h) fun h4 => (hn ⟨⟨by omega, by omega⟩, ⟨by omega, by omega⟩, hr⟩).elim
  by_cases a : row = 26
  · exact selF (by simp [bne, a]) (ha (.inl a))
  · refine selT (by rw [bne_iff_ne]; exact a) ?_
    by_cases b : row = 28
    · exact selF (by simp [bne, b]) (ha (.inr (.inl b)))
    · refine selT (by rw [bne_iff_ne]; exact b) ?_
      by_cases c : row = 29
      · exact selF (by simp [bne, c]) (ha (.inr (.inr c)))
      · exact selT (by rw [bne_iff_ne]; exact c) h
theorem rtbg_in {mag row code : Int} {rows : List (List Sc)} {R : Out → Prop} (h : sel (okTB mag row code) (sel (decide (rows.length = 13)) (R (oRBy mag row (LTg code rows))) (R (oRE 102))) (R (oRE 101))) : Box ((t_rtb [.c (.i .i64 mag), .c (.i .i64 row), .c (.i .i64 code), .c (.lr k3 rows)] []).run R) ∨ Box ((t_rtbE [.c (.i .i64 mag), .c (.i .i64 row), .c (.i .i64 code), .c (.lr k3 rows)] []).run R) := by
  cases hk : okTB mag row code with
  | false =>
    rw [hk] at h
    exact .inr (rtN_in hk h)
  | true =>
    by_cases hl : rows.length = 13
    · rw [hk, dT hl] at h
      exact .inl (rtG_in hl hk h)
    · rw [hk, dF hl] at h
      exact .inr (rtE_in hl hk h)
set_option maxRecDepth 100000 in
theorem kRTBg : Known Tryd.prog GL 44 tRTBg := by
  refine Known_or k_rtb k_rtbE fun args regs R h => ?_
  unfold tRTBg at h
  split at h
  case h_2 => exact h.elim
  exact rtbg_in h
/-! ### the document's region -/
noncomputable def rrgC (ds : List Int) (R : Out → Prop) : Prop := sel ((ds.length : Int) != 39) (R (oRg 0 false)) (sel (decide ((0 : Int) < (ds.length : Int))) (sel (decide ((0 : Int).toNat < ds.length)) (sel (decide ((1 : Int) < (ds.length : Int))) (sel (decide ((1 : Int).toNat < ds.length)) (sel (decide ((2 : Int) < (ds.length : Int))) (sel (decide ((2 : Int).toNat < ds.length)) (inK ds 0 ∧ sel (!gK ds 0) (R (oRg 0 false)) (sel (aI (nK ds 0) 15 != 0) (R (oRg 0 false)) (R (oRg (regN ds) true)))) False) False) False) False) False) False)
noncomputable def rrgB (c : Int) (ds : List Int) (R : Out → Prop) : Prop := sel (c != 0) (sel (c != 4) (R (oRg 0 false)) (rrgC ds R)) (rrgC ds R)
theorem rregion_tree (m w k c : Int) (ds : List Int) (R : Out → Prop) : (t_rregion [.ag [.i .i64 m, .i .i64 w, .i .i64 k, .i .i64 c, .l .u8 ds]] []).run R =
    sel (k != 5) (sel (k != 6) (R (oRg 0 false)) (rrgB c ds R)) (rrgB c ds R) := by kernel_rfl
noncomputable def tRRegion : Con := fun args regs => match args, regs with
  | [.ag [.i .i64 _, .i .i64 _, .i .i64 k, .i .i64 c, .l .u8 ds]], [] => .must (((k = 5 ∨ k = 6) → ds.length = 39) ∧ 39 ≤ ds.length ∧ ds.length < 1000 ∧ ∀ x ∈ ds, 0 ≤ x ∧ x < 256) (.ret (oRg (bif regB k c ds then regN ds else 0) (regB k c ds)))
  | _, _ => .fail
theorem rrgC_in {ds : List Int} {R : Out → Prop} (hl : ds.length = 39) (hm : mustNum ds) (h : R (oRg (bif gK ds 0 && (aI (nK ds 0) 15 == 0) then regN ds else 0) (gK ds 0 && (aI (nK ds 0) 15 == 0)))) : rrgC ds R := by
  have hi : inK ds 0 := ⟨getD_in hm.2.2 _, getD_in hm.2.2 _, getD_in hm.2.2 _⟩
  exact selF (by simp [bne, hl]) (selT (dT (by omega)) (selT (dT (by omega)) (selT (dT (by omega)) (selT (dT (by omega)) (selT (dT (by omega)) (selT (dT (by omega)) ⟨hi, (rgC_in hm h).2⟩))))))
theorem rrgB_in {c : Int} {ds : List Int} {R : Out → Prop} (hl : ds.length = 39) (hm : mustNum ds) (h : R (oRg (bif (c == 0 || c == 4) && (gK ds 0 && (aI (nK ds 0) 15 == 0)) then regN ds else 0) ((c == 0 || c == 4) && (gK ds 0 && (aI (nK ds 0) 15 == 0))))) : rrgB c ds R := by
  unfold rrgB
  cases h1 : (c == 0) with
  | true => rw [h1] at h; exact selF (by simp [bne, h1]) (rrgC_in hl hm h)
  | false =>
    rw [h1] at h
    refine selT (by simp [bne, h1]) ?_
    cases h2 : (c == 4) with
    | true => rw [h2] at h; exact selF (by simp [bne, h2]) (rrgC_in hl hm h)
    | false => rw [h2] at h; exact selT (by simp [bne, h2]) h
set_option maxRecDepth 100000 in
theorem kRRegion : Known Tryd.prog GL 42 tRRegion := by
  refine k_rregion.less fun args regs R h => Box.out ?_
  unfold tRRegion at h
  split at h
  case h_2 => exact h.elim
  rename_i m w k c ds
  have hm : mustNum ds := h.1.2
  have hl := h.1.1
  have h2 : R (oRg (bif regB k c ds then regN ds else 0) (regB k c ds)) := h.2
  clear h
  refine Box.of_eq (rregion_tree m w k c ds R) ?_
  unfold regB at h2
  cases h1 : (k == 5) with
  | true =>
    rw [h1] at h2
    exact selF (by simp [bne, h1]) (rrgB_in (hl (.inl (eq_of_beq h1))) hm h2)
  | false =>
    rw [h1] at h2
    refine selT (by simp [bne, h1]) ?_
    cases h3 : (k == 6) with
    | true => rw [h3] at h2; exact selF (by simp [bne, h3]) (rrgB_in (hl (.inr (eq_of_beq h3))) hm h2)
    | false => rw [h3] at h2; exact selT (by simp [bne, h3]) h2
/-! ### read -/
noncomputable def oTE : Out := ⟨.tu [.c .sn, .c .sn, .c (.e 2)], []⟩
noncomputable def oRTE : Out := ⟨.tu [.c .sn, .c .sn, .c (.i .i64 104)], []⟩
noncomputable def oRTr (ds : List Int) : Out := ⟨.tu [.c (.h 0 0 13), .c (.h 1 0 13), .c (.i .i64 0)], [some ⟨3, 66, .recs [.i .i64, .i .i64, .i .i64] (XT ds)⟩, some ⟨1, 4, .recs [.b] (GT ds)⟩]⟩
theorem treadG_tree (m w k c : Int) (ds : List Int) (R : Out → Prop) : (t_treadG [.ag [.i .i64 m, .i .i64 w, .i .i64 k, .i .i64 c, .l .u8 ds]] []).run R = sel (!hasB k) (R oTE) (mustNum ds ∧ R (oTr ds)) := by kernel_rfl
/-- Read, of packets that have triplets (true), of others. -/
noncomputable def tRd (b : Bool) : Con := fun args regs => match args, regs with
  | [.ag [.i .i64 _, .i .i64 _, .i .i64 k, .i .i64 _, .l .u8 ds]], [] => .must (hasB k = b ∧ (b = true → 39 ≤ ds.length ∧ ds.length < 1000 ∧ ∀ x ∈ ds, 0 ≤ x ∧ x < 256)) (.ret (bif b then oTr ds else oTE))
  | _, _ => .fail
set_option maxRecDepth 100000 in
theorem kTRd (b : Bool) : Known Tryd.prog GL 38 (tRd b) := by
  refine k_treadG.less fun args regs R h => Box.out ?_
  unfold tRd at h
  split at h
  case h_2 => exact h.elim
  rename_i m w k c ds
  have h1 := h.1
  have h2 : R (bif b then oTr ds else oTE) := h.2
  clear h
  obtain ⟨hk, hm⟩ := h1
  refine Box.of_eq (treadG_tree m w k c ds R) ?_
  rw [hk]
  cases b with
  | true => exact selF rfl ⟨hm rfl, h2⟩
  | false => exact selT rfl h2
theorem rreadT_3 (m w c : Int) (g : Nat → Int) (R : Out → Prop) : (t_rreadT [.ag [.i .i64 m, .i .i64 w, .i .i64 3, .i .i64 c, .l .u8 ((List.range 39).map g)]] []).run R = (inK ((List.range 39).map g) 0 ∧ (inK ((List.range 39).map g) 1 ∧ (inK ((List.range 39).map g) 2 ∧ (inK ((List.range 39).map g) 3 ∧ (inK ((List.range 39).map g) 4 ∧ (inK ((List.range 39).map g) 5 ∧ (inK ((List.range 39).map g) 6 ∧ (inK ((List.range 39).map g) 7 ∧ (inK ((List.range 39).map g) 8 ∧ (inK ((List.range 39).map g) 9 ∧ (inK ((List.range 39).map g) 10 ∧ (inK ((List.range 39).map g) 11 ∧ (inK ((List.range 39).map g) 12 ∧ R (oRTr ((List.range 39).map g))))))))))))))) := by kernel_rfl
theorem rreadT_5 (m w c : Int) (g : Nat → Int) (R : Out → Prop) : (t_rreadT [.ag [.i .i64 m, .i .i64 w, .i .i64 5, .i .i64 c, .l .u8 ((List.range 39).map g)]] []).run R = (inK ((List.range 39).map g) 0 ∧ (inK ((List.range 39).map g) 1 ∧ (inK ((List.range 39).map g) 2 ∧ (inK ((List.range 39).map g) 3 ∧ (inK ((List.range 39).map g) 4 ∧ (inK ((List.range 39).map g) 5 ∧ (inK ((List.range 39).map g) 6 ∧ (inK ((List.range 39).map g) 7 ∧ (inK ((List.range 39).map g) 8 ∧ (inK ((List.range 39).map g) 9 ∧ (inK ((List.range 39).map g) 10 ∧ (inK ((List.range 39).map g) 11 ∧ (inK ((List.range 39).map g) 12 ∧ R (oRTr ((List.range 39).map g))))))))))))))) := by kernel_rfl
theorem rreadT_6 (m w c : Int) (g : Nat → Int) (R : Out → Prop) : (t_rreadT [.ag [.i .i64 m, .i .i64 w, .i .i64 6, .i .i64 c, .l .u8 ((List.range 39).map g)]] []).run R = (inK ((List.range 39).map g) 0 ∧ (inK ((List.range 39).map g) 1 ∧ (inK ((List.range 39).map g) 2 ∧ (inK ((List.range 39).map g) 3 ∧ (inK ((List.range 39).map g) 4 ∧ (inK ((List.range 39).map g) 5 ∧ (inK ((List.range 39).map g) 6 ∧ (inK ((List.range 39).map g) 7 ∧ (inK ((List.range 39).map g) 8 ∧ (inK ((List.range 39).map g) 9 ∧ (inK ((List.range 39).map g) 10 ∧ (inK ((List.range 39).map g) 11 ∧ (inK ((List.range 39).map g) 12 ∧ R (oRTr ((List.range 39).map g))))))))))))))) := by kernel_rfl
noncomputable def rdX (ds : List Int) (R : Out → Prop) : Prop := sel ((ds.length : Int) != 39) (R oRTE) False
theorem rreadE_tree (m w k c : Int) (ds : List Int) (R : Out → Prop) : (t_rreadE [.ag [.i .i64 m, .i .i64 w, .i .i64 k, .i .i64 c, .l .u8 ds]] []).run R = sel (k != 3) (sel (k != 5) (sel (k != 6) (R oRTE) (rdX ds R)) (rdX ds R)) (rdX ds R) := by kernel_rfl
noncomputable def tRRd (b : Bool) : Con := fun args regs => match args, regs with
  | [.ag [.i .i64 _, .i .i64 _, .i .i64 k, .i .i64 _, .l .u8 ds]], [] => .must (hasB k = b ∧ (b = true → ds.length = 39 ∧ ∀ x ∈ ds, 0 ≤ x ∧ x < 256)) (.ret (bif b then oRTr ds else oRTE))
  | _, _ => .fail
theorem range_eq {ds : List Int} (h : ds.length = 39) : ds = (List.range 39).map fun i => ds.getD i 0 := by
  refine List.ext_getElem (by simp [h]) fun j h1 h2 => ?_
  rw [List.getElem_map, List.getElem_range, List.getD_eq_getElem?_getD, List.getElem?_eq_getElem h1]
  rfl
theorem rrdT_in {m w k c : Int} {ds : List Int} {R : Out → Prop} (hk : hasB k = true) (hl : ds.length = 39) (hb : ∀ x ∈ ds, 0 ≤ x ∧ x < 256) (h : R (oRTr ds)) : Box ((t_rreadT [.ag [.i .i64 m, .i .i64 w, .i .i64 k, .i .i64 c, .l .u8 ds]] []).run R) := by
  have hi : ∀ j, inK ds j := fun j => ⟨getD_in hb _, getD_in hb _, getD_in hb _⟩
  have hk : k = 3 ∨ k = 5 ∨ k = 6 := by
    unfold hasB at hk
    simpa using hk
  have e := range_eq hl
  generalize (fun i => ds.getD i 0) = g at e
  subst e
  rcases hk with rfl | rfl | rfl
  · exact Box.of_eq (rreadT_3 m w c g R) ⟨hi 0, hi 1, hi 2, hi 3, hi 4, hi 5, hi 6, hi 7, hi 8, hi 9, hi 10, hi 11, hi 12, h⟩
  · exact Box.of_eq (rreadT_5 m w c g R) ⟨hi 0, hi 1, hi 2, hi 3, hi 4, hi 5, hi 6, hi 7, hi 8, hi 9, hi 10, hi 11, hi 12, h⟩
  · exact Box.of_eq (rreadT_6 m w c g R) ⟨hi 0, hi 1, hi 2, hi 3, hi 4, hi 5, hi 6, hi 7, hi 8, hi 9, hi 10, hi 11, hi 12, h⟩
theorem rrdE_in {m w k c : Int} {ds : List Int} {R : Out → Prop} (hk : hasB k = false) (h : R oRTE) : Box ((t_rreadE [.ag [.i .i64 m, .i .i64 w, .i .i64 k, .i .i64 c, .l .u8 ds]] []).run R) := by
  refine Box.of_eq (rreadE_tree m w k c ds R) ?_
  unfold hasB at hk
  simp only [Bool.or_eq_false_iff, beq_eq_false_iff_ne] at hk
  exact selT (by rw [bne_iff_ne]; exact hk.1) (selT (by rw [bne_iff_ne]; exact hk.2.1) (selT (by rw [bne_iff_ne]; exact hk.2.2) h))
set_option maxRecDepth 100000 in
theorem kRRd (b : Bool) : Known Tryd.prog GL 40 (tRRd b) := by
  refine Known_or k_rreadT k_rreadE fun args regs R h => ?_
  unfold tRRd at h
  split at h
  case h_2 => exact h.elim
  rename_i m w k c ds
  have h1 := h.1
  have h2 : R (bif b then oRTr ds else oRTE) := h.2
  clear h
  obtain ⟨hk, hm⟩ := h1
  cases b with
  | true => exact .inl (rrdT_in hk (hm rfl).1 (hm rfl).2 h2)
  | false => exact .inr (rrdE_in hk h2)
/-! ### the same -/
theorem sbools_nil (R : Out → Prop) : (t_sbools [.c .sn, .c .sn] []).run R = R (oB true) := by kernel_rfl
theorem sbools_tree (b0 b1 b2 b3 b4 b5 b6 b7 b8 b9 b10 b11 b12 : Bool) (R : Out → Prop) : (t_sbools [.c (.lr [.b] [[Sc.b b0], [Sc.b b1], [Sc.b b2], [Sc.b b3], [Sc.b b4], [Sc.b b5], [Sc.b b6], [Sc.b b7], [Sc.b b8], [Sc.b b9], [Sc.b b10], [Sc.b b11], [Sc.b b12]]), .c (.lr [.b] [[Sc.b b0], [Sc.b b1], [Sc.b b2], [Sc.b b3], [Sc.b b4], [Sc.b b5], [Sc.b b6], [Sc.b b7], [Sc.b b8], [Sc.b b9], [Sc.b b10], [Sc.b b11], [Sc.b b12]])] []).run R = sel (b0 != b0) (R (oB false)) (sel (b1 != b1) (R (oB false)) (sel (b2 != b2) (R (oB false)) (sel (b3 != b3) (R (oB false)) (sel (b4 != b4) (R (oB false)) (sel (b5 != b5) (R (oB false)) (sel (b6 != b6) (R (oB false)) (sel (b7 != b7) (R (oB false)) (sel (b8 != b8) (R (oB false)) (sel (b9 != b9) (R (oB false)) (sel (b10 != b10) (R (oB false)) (sel (b11 != b11) (R (oB false)) (sel (b12 != b12) (R (oB false)) (R (oB true)))))))))))))) := by kernel_rfl
noncomputable def tSBools (b : Bool) : Con := fun args regs => match b, args, regs with
  | true, [.c (.lr [.b] xs), .c (.lr [.b] ys)], [] => .must (xs = ys ∧ ∃ b0 b1 b2 b3 b4 b5 b6 b7 b8 b9 b10 b11 b12 : Bool, xs = [[Sc.b b0], [Sc.b b1], [Sc.b b2], [Sc.b b3], [Sc.b b4], [Sc.b b5], [Sc.b b6], [Sc.b b7], [Sc.b b8], [Sc.b b9], [Sc.b b10], [Sc.b b11], [Sc.b b12]]) (.ret (oB true))
  | false, [.c .sn, .c .sn], [] => .ret (oB true)
  | _, _, _ => .fail
theorem bne_self (b : Bool) : (b != b) = false := by cases b <;> rfl
theorem sbools_in {xs ys : List (List Sc)} {R : Out → Prop} (h1 : xs = ys ∧ ∃ b0 b1 b2 b3 b4 b5 b6 b7 b8 b9 b10 b11 b12 : Bool, xs = [[Sc.b b0], [Sc.b b1], [Sc.b b2], [Sc.b b3], [Sc.b b4], [Sc.b b5], [Sc.b b6], [Sc.b b7], [Sc.b b8], [Sc.b b9], [Sc.b b10], [Sc.b b11], [Sc.b b12]]) (h : R (oB true)) : Box ((t_sbools [.c (.lr [.b] xs), .c (.lr [.b] ys)] []).run R) := by
  obtain ⟨rfl, b0, b1, b2, b3, b4, b5, b6, b7, b8, b9, b10, b11, b12, rfl⟩ := h1
  refine Box.of_eq (sbools_tree b0 b1 b2 b3 b4 b5 b6 b7 b8 b9 b10 b11 b12 R) ?_
  exact selF (bne_self _) (selF (bne_self _) (selF (bne_self _) (selF (bne_self _) (selF (bne_self _) (selF (bne_self _) (selF (bne_self _) (selF (bne_self _) (selF (bne_self _) (selF (bne_self _) (selF (bne_self _) (selF (bne_self _) (selF (bne_self _) (h)))))))))))))
set_option maxRecDepth 100000 in
theorem kSBools (b : Bool) : Known Tryd.prog GL 43 (tSBools b) := by
  refine k_sbools.less fun args regs R h => Box.out ?_
  unfold tSBools at h
  split at h
  case h_3 => exact h.elim
  case h_1 =>
    have h1 := h.1
    have h2 : R (oB true) := h.2
    clear h
    exact sbools_in h1 h2
  case h_2 => exact Box.of_eq (sbools_nil R) h
end Go.Proofs.YthjdlanmfiofdaaDoor.ts
