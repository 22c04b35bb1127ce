/-
  Triplets: the functions, by their code and by what they do; the code of TripletRegions.
-/
import Derived.Test.YthjdlanmfiofdaaDoorHmC
import Derived.Test.YthjdlanmfiofdaaDoorHdQ
import Derived.Test.YthjdlanmfiofdaaDoorMapF
namespace Go.Proofs.YthjdlanmfiofdaaDoor.tr
open Go Go.Nx Go.Proofs.YthjdlanmfiofdaaDoor.pk Go.Proofs.YthjdlanmfiofdaaDoor.ln Go.Proofs.YthjdlanmfiofdaaDoor.hd

noncomputable def t_thas : Con := fun args regs => nfun Tryd.prog GL (fun _ => Option.none) [] Tryd.f79 args regs
theorem k_thas : Known Tryd.prog GL 79 t_thas := known_inl Tryd.func79 rfl (by kernel_rfl) mixed con_none (by kernel_rfl)
noncomputable def t_tof : Con := fun args regs => nfun Tryd.prog GL (fun _ => Option.none) [] Tryd.f35 args regs
theorem k_tof : Known Tryd.prog GL 35 t_tof := known_inl Tryd.func35 rfl (by kernel_rfl) mixed con_none (by kernel_rfl)
noncomputable def t_tnum : Con := fun args regs => nfun Tryd.prog GL (fun _ => Option.none) [] Tryd.f45 args regs
theorem k_tnum : Known Tryd.prog GL 45 t_tnum := known_inl Tryd.func45 rfl (by kernel_rfl) mixed con_none (by kernel_rfl)
noncomputable def c_tbytes : FuncId → Option Con := conOf [(68, t_mag), (79, t_thas), (59, tKind), (69, t_row7), (45, t_tnum), (80, ham.tPutV), (28, tBytes)]
theorem kc_tbytes : ∀ f T, c_tbytes f = some T → Known Tryd.prog GL f T := (Knowns.cons kg_mag (.cons k_thas (.cons kg_kind (.cons k_row7 (.cons k_tnum (.cons (known_gl ham.kPutV) (.cons kBytes .nil))))))).get
noncomputable def X_tbytes : Cx := { P := Tryd.prog, con := c_tbytes, glob := GL, m := 0, loops := [] }
noncomputable def t_tbytes : Con := fun args regs => if regs.length = 0 then nfun Tryd.prog GL c_tbytes [(1, [0, 1, 10, 41, 42, 43], unroll X_tbytes 1 [0, 1, 10, 41, 42, 43] [0, 1, 10] (bodyLoop Tryd.f36 1) 14)] Tryd.f36 args regs else .fail
theorem k_tbytes : Known Tryd.prog GL 36 t_tbytes := known_loops 0 Tryd.func36 rfl (by kernel_rfl) mixed kc_tbytes (LAll.one (id := 1) (body := bodyLoop Tryd.f36 1) (by kernel_rfl) rfl (unroll_ok (X := X_tbytes) kc_tbytes mixed (LAll.none (by kernel_rfl)) [0, 1, 10, 41, 42, 43] [0, 1, 10] 14))
noncomputable def c_numbers : FuncId → Option Con := conOf [(62, t_part), (106, ham.tGetV)]
theorem kc_numbers : ∀ f T, c_numbers f = some T → Known Tryd.prog GL f T := (Knowns.cons k_part (.cons (known_gl ham.kGetV) .nil)).get
noncomputable def X_numbers : Cx := { P := Tryd.prog, con := c_numbers, glob := GL, m := 0, loops := [] }
noncomputable def t_numbers : Con := fun args regs => if regs.length = 0 then nfun Tryd.prog GL c_numbers [(0, [1, 4, 5, 9], unroll X_numbers 0 [1, 4, 5, 9] [4, 5] (bodyLoop Tryd.f81 0) 14)] Tryd.f81 args regs else .fail
theorem k_numbers : Known Tryd.prog GL 81 t_numbers := known_loops 0 Tryd.func81 rfl (by kernel_rfl) mixed kc_numbers (LAll.one (id := 0) (body := bodyLoop Tryd.f81 0) (by kernel_rfl) rfl (unroll_ok (X := X_numbers) kc_numbers mixed (LAll.none (by kernel_rfl)) [1, 4, 5, 9] [4, 5] 14))
end Go.Proofs.YthjdlanmfiofdaaDoor.tr

namespace Go.Proofs.YthjdlanmfiofdaaDoor.tr
open Go Go.Nx Go.Proofs.YthjdlanmfiofdaaDoor.pk Go.Proofs.YthjdlanmfiofdaaDoor.ln Go.Proofs.YthjdlanmfiofdaaDoor.hd

def k3 : List CK := [.i .i64, .i .i64, .i .i64]
def cI (row : List Sc) (j : Nat) : Int := (row.getD j (Sc.i 0)).n
/-- A triplet's number. -/
noncomputable def nR (row : List Sc) : Int := oI (oI (aI (cI row 0) 63) (shlv .i64 (aI (cI row 1) 31) 6)) (shlv .i64 (aI (cI row 2) 127) 11)
noncomputable def wR (row : List Sc) : BitVec 32 := ham.wordv (BitVec.ofInt 64 (nR row))
noncomputable def tw (row : List Sc) : List Int := [u8 (ham.b0 (wR row)), u8 (ham.b1 (wR row)), u8 (ham.b2 (wR row))]
def In64 (n : Int) : Prop := -9223372036854775808 ≤ n ∧ n < 9223372036854775808
theorem i64_in (v : BitVec 64) : In64 (i64 v) := by
  have h1 := BitVec.le_toInt v
  have h2 := BitVec.toInt_lt (x := v)
  unfold i64 In64
  omega
theorem nR_in (row : List Sc) : In64 (nR row) := by
  unfold nR
  generalize oI (aI (cI row 0) 63) (shlv .i64 (aI (cI row 1) 31) 6) = a
  generalize shlv .i64 (aI (cI row 2) 127) 11 = b
  have e : oI a b = i64 (BitVec.ofInt 64 a ||| BitVec.ofInt 64 b) := bits_i64 .or a b
  rw [e]
  exact i64_in _
noncomputable def LT (code : Int) (r0 r1 r2 r3 r4 r5 r6 r7 r8 r9 r10 r11 r12 : List Sc) : List Int := put code :: (tw r0 ++ (tw r1 ++ (tw r2 ++ (tw r3 ++ (tw r4 ++ (tw r5 ++ (tw r6 ++ (tw r7 ++ (tw r8 ++ (tw r9 ++ (tw r10 ++ (tw r11 ++ (tw r12)))))))))))))
theorem tbytes_26 (mag code : Int) (r0 r1 r2 r3 r4 r5 r6 r7 r8 r9 r10 r11 r12 : List Sc) (R : Out → Prop) : (t_tbytes [.c (.i .i64 mag), .c (.i .i64 26), .c (.i .i64 code), .c (.lr k3 [r0, r1, r2, r3, r4, r5, r6, r7, r8, r9, r10, r11, r12])] []).run R =
    sel (decide (mag ≥ 1)) (sel (!decide (mag ≤ 8)) (R (oEr 3)) (sel (decide (code < 0)) (R (oEr 3)) (sel (decide (code > 15)) (R (oEr 3)) (In64 (nR r0) ∧ (In64 (nR r1) ∧ (In64 (nR r2) ∧ (In64 (nR r3) ∧ (In64 (nR r4) ∧ (In64 (nR r5) ∧ (In64 (nR r6) ∧ (In64 (nR r7) ∧ (In64 (nR r8) ∧ (In64 (nR r9) ∧ (In64 (nR r10) ∧ (In64 (nR r11) ∧ (In64 (nR r12) ∧ sel (okMR mag 26) (R (oBy mag 26 (LT code r0 r1 r2 r3 r4 r5 r6 r7 r8 r9 r10 r11 r12))) (R (oEr 3)))))))))))))))))) (R (oEr 3)) := by kernel_rfl
theorem tbytes_28 (mag code : Int) (r0 r1 r2 r3 r4 r5 r6 r7 r8 r9 r10 r11 r12 : List Sc) (R : Out → Prop) : (t_tbytes [.c (.i .i64 mag), .c (.i .i64 28), .c (.i .i64 code), .c (.lr k3 [r0, r1, r2, r3, r4, r5, r6, r7, r8, r9, r10, r11, r12])] []).run R =
    sel (decide (mag ≥ 1)) (sel (!decide (mag ≤ 8)) (R (oEr 3)) (sel (decide (code < 0)) (R (oEr 3)) (sel (decide (code > 15)) (R (oEr 3)) (In64 (nR r0) ∧ (In64 (nR r1) ∧ (In64 (nR r2) ∧ (In64 (nR r3) ∧ (In64 (nR r4) ∧ (In64 (nR r5) ∧ (In64 (nR r6) ∧ (In64 (nR r7) ∧ (In64 (nR r8) ∧ (In64 (nR r9) ∧ (In64 (nR r10) ∧ (In64 (nR r11) ∧ (In64 (nR r12) ∧ sel (okMR mag 28) (R (oBy mag 28 (LT code r0 r1 r2 r3 r4 r5 r6 r7 r8 r9 r10 r11 r12))) (R (oEr 3)))))))))))))))))) (R (oEr 3)) := by kernel_rfl
theorem tbytes_29 (mag code : Int) (r0 r1 r2 r3 r4 r5 r6 r7 r8 r9 r10 r11 r12 : List Sc) (R : Out → Prop) : (t_tbytes [.c (.i .i64 mag), .c (.i .i64 29), .c (.i .i64 code), .c (.lr k3 [r0, r1, r2, r3, r4, r5, r6, r7, r8, r9, r10, r11, r12])] []).run R =
    sel (decide (mag ≥ 1)) (sel (!decide (mag ≤ 8)) (R (oEr 3)) (sel (decide (code < 0)) (R (oEr 3)) (sel (decide (code > 15)) (R (oEr 3)) (In64 (nR r0) ∧ (In64 (nR r1) ∧ (In64 (nR r2) ∧ (In64 (nR r3) ∧ (In64 (nR r4) ∧ (In64 (nR r5) ∧ (In64 (nR r6) ∧ (In64 (nR r7) ∧ (In64 (nR r8) ∧ (In64 (nR r9) ∧ (In64 (nR r10) ∧ (In64 (nR r11) ∧ (In64 (nR r12) ∧ sel (okMR mag 29) (R (oBy mag 29 (LT code r0 r1 r2 r3 r4 r5 r6 r7 r8 r9 r10 r11 r12))) (R (oEr 3)))))))))))))))))) (R (oEr 3)) := by kernel_rfl
noncomputable def tTB : Con := fun args regs => match args, regs with
  | [.c (.i .i64 mag), .c (.i .i64 row), .c (.i .i64 code), .c (.lr [.i .i64, .i .i64, .i .i64] [r0, r1, r2, r3, r4, r5, r6, r7, r8, r9, r10, r11, r12])], [] => .must ((1 ≤ mag ∧ mag ≤ 8) ∧ (0 ≤ code ∧ code ≤ 15) ∧ (row = 26 ∨ row = 28 ∨ row = 29)) (.ret (oBy mag row (LT code r0 r1 r2 r3 r4 r5 r6 r7 r8 r9 r10 r11 r12)))
  | _, _ => .fail
theorem tb_in {mag code : Int} {R : Out → Prop} {A E : Prop} (hm : 1 ≤ mag ∧ mag ≤ 8) (hc : 0 ≤ code ∧ code ≤ 15) (h : A) : sel (decide (mag ≥ 1)) (sel (!decide (mag ≤ 8)) E (sel (decide (code < 0)) E (sel (decide (code > 15)) E A))) E := by
  have _ := R
  exact selT (dT (by omega)) (selF (by simp; omega) (selF (dF (by omega)) (selF (dF (by omega)) h)))
set_option maxRecDepth 100000 in
theorem kTB : Known Tryd.prog GL 36 tTB := by
  refine k_tbytes.less fun args regs R h => Box.out ?_
  unfold tTB at h
  split at h
  case h_2 => exact h.elim
  rename_i mag row code r0 r1 r2 r3 r4 r5 r6 r7 r8 r9 r10 r11 r12
  have h1 := h.1
  have h2 : R (oBy mag row (LT code r0 r1 r2 r3 r4 r5 r6 r7 r8 r9 r10 r11 r12)) := h.2
  clear h
  obtain ⟨hm, hc, hr⟩ := h1
  rcases hr with rfl | rfl | rfl
  · exact Box.of_eq (tbytes_26 mag code r0 r1 r2 r3 r4 r5 r6 r7 r8 r9 r10 r11 r12 R) (tb_in (R := R) hm hc ⟨nR_in r0, nR_in r1, nR_in r2, nR_in r3, nR_in r4, nR_in r5, nR_in r6, nR_in r7, nR_in r8, nR_in r9, nR_in r10, nR_in r11, nR_in r12, selT (dT ⟨hm.1, hm.2, by decide, by decide⟩) h2⟩)
  · exact Box.of_eq (tbytes_28 mag code r0 r1 r2 r3 r4 r5 r6 r7 r8 r9 r10 r11 r12 R) (tb_in (R := R) hm hc ⟨nR_in r0, nR_in r1, nR_in r2, nR_in r3, nR_in r4, nR_in r5, nR_in r6, nR_in r7, nR_in r8, nR_in r9, nR_in r10, nR_in r11, nR_in r12, selT (dT ⟨hm.1, hm.2, by decide, by decide⟩) h2⟩)
  · exact Box.of_eq (tbytes_29 mag code r0 r1 r2 r3 r4 r5 r6 r7 r8 r9 r10 r11 r12 R) (tb_in (R := R) hm hc ⟨nR_in r0, nR_in r1, nR_in r2, nR_in r3, nR_in r4, nR_in r5, nR_in r6, nR_in r7, nR_in r8, nR_in r9, nR_in r10, nR_in r11, nR_in r12, selT (dT ⟨hm.1, hm.2, by decide, by decide⟩) h2⟩)
/-! ### the numbers of a packet -/
noncomputable def wK (ds : List Int) (k : Nat) : BitVec 32 := ham.w3 (BitVec.ofInt 8 (ds.getD (3 * k) 0)) (BitVec.ofInt 8 (ds.getD (3 * k + 1) 0)) (BitVec.ofInt 8 (ds.getD (3 * k + 2) 0))
noncomputable def nK (ds : List Int) (k : Nat) : Int := i64 (ham.getN (wK ds k))
noncomputable def gK (ds : List Int) (k : Nat) : Bool := ham.getB (wK ds k)
def inK (ds : List Int) (k : Nat) : Prop := (0 ≤ ds.getD (3 * k) 0 ∧ ds.getD (3 * k) 0 < 256) ∧ (0 ≤ ds.getD (3 * k + 1) 0 ∧ ds.getD (3 * k + 1) 0 < 256) ∧ (0 ≤ ds.getD (3 * k + 2) 0 ∧ ds.getD (3 * k + 2) 0 < 256)
noncomputable def oNm (ds : List Int) : Out := ⟨.tu [.c (.h 0 0 13), .c (.h 1 0 13)], [some ⟨1, 3, .ints .i64 [nK ds 0, nK ds 1, nK ds 2, nK ds 3, nK ds 4, nK ds 5, nK ds 6, nK ds 7, nK ds 8, nK ds 9, nK ds 10, nK ds 11, nK ds 12]⟩, some ⟨1, 4, .recs [.b] [[Sc.b (gK ds 0)], [Sc.b (gK ds 1)], [Sc.b (gK ds 2)], [Sc.b (gK ds 3)], [Sc.b (gK ds 4)], [Sc.b (gK ds 5)], [Sc.b (gK ds 6)], [Sc.b (gK ds 7)], [Sc.b (gK ds 8)], [Sc.b (gK ds 9)], [Sc.b (gK ds 10)], [Sc.b (gK ds 11)], [Sc.b (gK ds 12)]]⟩]⟩
theorem numbers_tree (m w k c : Int) (ds : List Int) (R : Out → Prop) : (t_numbers [.ag [.i .i64 m, .i .i64 w, .i .i64 k, .i .i64 c, .l .u8 ds]] []).run R =
    (mustP ds (3 * 0) 3 ∧ (inK ds 0 ∧ (mustP ds (3 * 1) 3 ∧ (inK ds 1 ∧ (mustP ds (3 * 2) 3 ∧ (inK ds 2 ∧ (mustP ds (3 * 3) 3 ∧ (inK ds 3 ∧ (mustP ds (3 * 4) 3 ∧ (inK ds 4 ∧ (mustP ds (3 * 5) 3 ∧ (inK ds 5 ∧ (mustP ds (3 * 6) 3 ∧ (inK ds 6 ∧ (mustP ds (3 * 7) 3 ∧ (inK ds 7 ∧ (mustP ds (3 * 8) 3 ∧ (inK ds 8 ∧ (mustP ds (3 * 9) 3 ∧ (inK ds 9 ∧ (mustP ds (3 * 10) 3 ∧ (inK ds 10 ∧ (mustP ds (3 * 11) 3 ∧ (inK ds 11 ∧ (mustP ds (3 * 12) 3 ∧ (inK ds 12 ∧ R (oNm ds))))))))))))))))))))))))))) := by kernel_rfl
noncomputable def tNumbers : Con := fun args regs => match args, regs with
  | [.ag [.i .i64 _, .i .i64 _, .i .i64 _, .i .i64 _, .l .u8 ds]], [] => .must (39 ≤ ds.length ∧ ds.length < 1000 ∧ ∀ x ∈ ds, 0 ≤ x ∧ x < 256) (.ret (oNm ds))
  | _, _ => .fail
theorem getD_in {ds : List Int} (h : ∀ x ∈ ds, 0 ≤ x ∧ x < 256) (j : Nat) : 0 ≤ ds.getD j 0 ∧ ds.getD j 0 < 256 := by
  rw [List.getD_eq_getElem?_getD]
  cases hj : ds[j]? with
  | none => exact ⟨by decide, by decide⟩
  | some x => exact h x (List.mem_of_getElem? hj)
theorem mustP_of {ds : List Int} (f n : Nat) (h : f + n ≤ ds.length) (hn : f + n < 1000) : mustP ds f n := ⟨rfl, by simp, Int.le_refl _, by omega, by omega, by omega, by omega⟩
set_option maxRecDepth 100000 in
theorem kNumbers : Known Tryd.prog GL 81 tNumbers := by
  refine k_numbers.less fun args regs R h => Box.out ?_
  unfold tNumbers at h
  split at h
  case h_2 => exact h.elim
  rename_i m w k c ds
  have h1 := h.1
  have h2 : R (oNm ds) := h.2
  clear h
  obtain ⟨hl, hm, hb⟩ := h1
  have hi : ∀ j, inK ds j := fun j => ⟨getD_in hb _, getD_in hb _, getD_in hb _⟩
  exact Box.of_eq (numbers_tree m w k c ds R) ⟨mustP_of (3 * 0) 3 (by omega) (by omega), hi 0, mustP_of (3 * 1) 3 (by omega) (by omega), hi 1, mustP_of (3 * 2) 3 (by omega) (by omega), hi 2, mustP_of (3 * 3) 3 (by omega) (by omega), hi 3, mustP_of (3 * 4) 3 (by omega) (by omega), hi 4, mustP_of (3 * 5) 3 (by omega) (by omega), hi 5, mustP_of (3 * 6) 3 (by omega) (by omega), hi 6, mustP_of (3 * 7) 3 (by omega) (by omega), hi 7, mustP_of (3 * 8) 3 (by omega) (by omega), hi 8, mustP_of (3 * 9) 3 (by omega) (by omega), hi 9, mustP_of (3 * 10) 3 (by omega) (by omega), hi 10, mustP_of (3 * 11) 3 (by omega) (by omega), hi 11, mustP_of (3 * 12) 3 (by omega) (by omega), hi 12, h2⟩
end Go.Proofs.YthjdlanmfiofdaaDoor.tr

namespace Go.Proofs.YthjdlanmfiofdaaDoor.tr
open Go Go.Nx Go.Proofs.YthjdlanmfiofdaaDoor.pk Go.Proofs.YthjdlanmfiofdaaDoor.ln Go.Proofs.YthjdlanmfiofdaaDoor.hd

noncomputable def c_region : FuncId → Option Con := conOf [(81, tNumbers)]
theorem kc_region : ∀ f T, c_region f = some T → Known Tryd.prog GL f T := (Knowns.cons kNumbers .nil).get
noncomputable def t_region : Con := fun args regs => nfun Tryd.prog GL c_region [] Tryd.f37 args regs
theorem k_region : Known Tryd.prog GL 37 t_region := known_inl Tryd.func37 rfl (by kernel_rfl) mixed kc_region (by kernel_rfl)
/-- Does a packet tell a region? -/
noncomputable def regB (k c : Int) (ds : List Int) : Bool := (k == 5 || k == 6) && ((c == 0 || c == 4) && (gK ds 0 && (aI (nK ds 0) 15 == 0)))
noncomputable def regN (ds : List Int) : Int := aI (shrv .i64 (nK ds 0) 10) 15
noncomputable def oRg (n : Int) (b : Bool) : Out := ⟨.tu [.c (.i .i64 n), .c (.b b)], []⟩
def mustNum (ds : List Int) : Prop := 39 ≤ ds.length ∧ ds.length < 1000 ∧ ∀ x ∈ ds, 0 ≤ x ∧ x < 256
noncomputable def rgC (ds : List Int) (R : Out → Prop) : Prop := mustNum ds ∧ sel (!gK ds 0) (R (oRg 0 false)) (sel (aI (nK ds 0) 15 != 0) (R (oRg 0 false)) (R (oRg (regN ds) true)))
noncomputable def rgB (c : Int) (ds : List Int) (R : Out → Prop) : Prop := sel (c != 0) (sel (c != 4) (R (oRg 0 false)) (rgC ds R)) (rgC ds R)
theorem region_tree (m w k c : Int) (ds : List Int) (R : Out → Prop) : (t_region [.ag [.i .i64 m, .i .i64 w, .i .i64 k, .i .i64 c, .l .u8 ds]] []).run R =
    sel (k != 5) (sel (k != 6) (R (oRg 0 false)) (rgB c ds R)) (rgB c ds R) := by kernel_rfl
noncomputable def tRegion : Con := fun args regs => match args, regs with
  | [.ag [.i .i64 _, .i .i64 _, .i .i64 k, .i .i64 c, .l .u8 ds]], [] => .must (39 ≤ ds.length ∧ ds.length < 1000 ∧ ∀ x ∈ ds, 0 ≤ x ∧ x < 256) (.ret (oRg (bif regB k c ds then regN ds else 0) (regB k c ds)))
  | _, _ => .fail
theorem rgC_in {ds : List Int} {R : Out → Prop} (hm : mustNum ds) (h : R (oRg (bif gK ds 0 && (aI (nK ds 0) 15 == 0) then regN ds else 0) (gK ds 0 && (aI (nK ds 0) 15 == 0)))) : rgC ds R := by
  refine ⟨hm, ?_⟩
  cases h1 : gK ds 0 with
  | false => rw [h1] at h; exact selT rfl h
  | true =>
    rw [h1] at h
    refine selF rfl ?_
    cases h2 : (aI (nK ds 0) 15 == 0) with
    | false => rw [h2] at h; exact selT (by simp [bne, h2]) h
    | true => rw [h2] at h; exact selF (by simp [bne, h2]) h
theorem rgB_in {c : Int} {ds : List Int} {R : Out → Prop} (hm : mustNum ds) (h : R (oRg (bif (c == 0 || c == 4) && (gK ds 0 && (aI (nK ds 0) 15 == 0)) then regN ds else 0) ((c == 0 || c == 4) && (gK ds 0 && (aI (nK ds 0) 15 == 0))))) : rgB c ds R := by
  cases h1 : (c == 0) with
  | true =>
    rw [h1] at h
    exact selF (by simp [bne, h1]) (rgC_in hm h)
  | false =>
    rw [h1] at h
    refine selT (by simp [bne, h1]) ?_
    cases h2 : (c == 4) with
    | true => rw [h2] at h; exact selF (by simp [bne, h2]) (rgC_in hm h)
    | false => rw [h2] at h; exact selT (by simp [bne, h2]) h
set_option maxRecDepth 100000 in
theorem kRegion : Known Tryd.prog GL 37 tRegion := by
  refine k_region.less fun args regs R h => Box.out ?_
  unfold tRegion at h
  split at h
  case h_2 => exact h.elim
  rename_i m w k c ds
  have hm : mustNum ds := h.1
  have h2 : R (oRg (bif regB k c ds then regN ds else 0) (regB k c ds)) := h.2
  clear h
  refine Box.of_eq (region_tree m w k c ds R) ?_
  unfold regB at h2
  cases h1 : (k == 5) with
  | true =>
    rw [h1] at h2
    exact selF (by simp [bne, h1]) (rgB_in hm h2)
  | false =>
    rw [h1] at h2
    refine selT (by simp [bne, h1]) ?_
    cases h3 : (k == 6) with
    | true => rw [h3] at h2; exact selF (by simp [bne, h3]) (rgB_in hm h2)
    | false => rw [h3] at h2; exact selT (by simp [bne, h3]) h2
/-! ### a coded packet -/
noncomputable def raT (bs : List Int) : Int := rowOf (getN (bs.getD 0 0)) (getN (bs.getD 1 0))
noncomputable def tReadV : Con := fun args regs => match args, regs with
  | [.c (.l .u8 bs)], [] => .must (bs.length = 42 ∧ getB (bs.getD 0 0) = true ∧ getB (bs.getD 1 0) = true ∧ (kindF (raT bs) ≠ 0 ∧ raT bs ≥ 26) ∧ getB ((bs.drop 2).getD 0 0) = true) (.ret (oPk (magOf (getN (bs.getD 0 0))) (raT bs) (kindF (raT bs)) (getN ((bs.drop 2).getD 0 0)) ((bs.drop 2).drop 1)))
  | _, _ => .fail
set_option maxRecDepth 100000 in
theorem kReadV : Known Tryd.prog GL 15 tReadV := by
  refine kRead.less fun args regs R h => ?_
  unfold tReadV at h
  split at h
  case h_2 => exact h.elim
  rename_i bs
  have h1 := h.1
  have h2 := h.2
  clear h
  obtain ⟨hl, g0, g1, hr, g2⟩ := h1
  exact selT (dT hl) (selT (by rw [g0, g1]; rfl) (selF (dF hr.1) (selT (dT hr.2) (selT g2 h2))))
noncomputable def c_first9 : FuncId → Option Con := conOf [(45, t_tnum)]
theorem kc_first9 : ∀ f T, c_first9 f = some T → Known Tryd.prog GL f T := (Knowns.cons k_tnum .nil).get
noncomputable def t_first9 : Con := fun args regs => nfun Tryd.prog GL c_first9 [] Tryd.f34 args regs
theorem k_first9 : Known Tryd.prog GL 34 t_first9 := known_inl Tryd.func34 rfl (by kernel_rfl) mixed kc_first9 (by kernel_rfl)
noncomputable def c_tregs : FuncId → Option Con := conOf [(26, num.tNumV), (34, t_first9), (35, t_tof), (36, tTB), (15, tReadV), (37, tRegion)]
theorem kc_tregs : ∀ f T, c_tregs f = some T → Known Tryd.prog GL f T := (Knowns.cons (known_gl num.kNumV) (.cons k_first9 (.cons k_tof (.cons kTB (.cons kReadV (.cons kRegion .nil)))))).get
noncomputable def t_tregs : Con := fun args regs => nfun Tryd.prog GL c_tregs [] Tryd.f8 args regs
theorem k_tregs : Known Tryd.prog GL 8 t_tregs := known_inl Tryd.func8 rfl (by kernel_rfl) mixed kc_tregs (by kernel_rfl)
end Go.Proofs.YthjdlanmfiofdaaDoor.tr
