/-
  Ham24Says: whatever the number and the three bytes, the law returns true and the arguments read as they did. No condition.
-/
import Derived.Test.YtjjkbnipokpmcaaHamE
import Derived.ProofKit
import Derived.OpenShut
import Derived.ShutString
import Derived.Laws.IdiomArrays
namespace Go.Proofs.Ytjjkbnipokpmcaa.ham24Says
open Go.ChangeShapes Go.WideShapes Go.ChangeAt Go.RowKit
set_option linter.unusedVariables false

section
variable {H : Type} {enc : TypeId × Value → H} {P : Program} {w : World} {base : Nat} {spare : Nat → Bool} {held : Bool}
theorem arr3 {cs : Array Value} (h : cs.size = 3) : ∃ a b c, cs = #[a, b, c] := by
  obtain ⟨l⟩ := cs
  match l, h with
  | [a, b, c], _ => exact ⟨a, b, c, rfl⟩
theorem open_array3 {r : Reach} {b0 : Nat} {t e : TypeId} {v : Value} {d : DataW H} {p : List MemPlace} (ht : P.underlying t = some (.array 3 e)) (hce : P.cellsOf e = 1) (hC : P.cellsOf t = 3)
    (hv : Value.okWide P w r b0 t v) (h : DataW.Trod enc P w base spare held t v d p) :
    ∃ (v0 v1 v2 : Value) (y0 y1 y2 : DataW H × List MemPlace) (n : Nat), v = .agg #[v0, v1, v2] ∧ d = .agg [y0.1, y1.1, y2.1] ∧ p = y0.2 ++ (y1.2 ++ y2.2) ∧
      DataW.trod enc P w base spare held n e [v0] = some y0 ∧ DataW.trod enc P w base spare held n e [v1] = some y1 ∧ DataW.trod enc P w base spare held n e [v2] = some y2 := by
  simp only [Value.okWide, ht] at hv
  obtain ⟨cs, rfl, hsz, _⟩ := hv
  obtain ⟨c0, c1, c2, rfl⟩ := arr3 (hsz.trans hC)
  obtain ⟨fuel, hf⟩ := h
  obtain ⟨y0, y1, y2, n, hx, h0, h1, h2⟩ := trod_array3 ht hce hf
  simp only [Prod.mk.injEq] at hx
  exact ⟨c0, c1, c2, y0, y1, y2, n, rfl, hx.1, hx.2, h0, h1, h2⟩
theorem shut_array3 {t e : TypeId} {v0 v1 v2 : Value} {d0 d1 d2 : DataW H} (ht : P.underlying t = some (.array 3 e)) (hce : P.cellsOf e = 1) (hC : P.cellsOf t = 3)
    (t0 : DataW.trod enc P w base spare held 1 e [v0] = some (d0, [])) (t1 : DataW.trod enc P w base spare held 1 e [v1] = some (d1, [])) (t2 : DataW.trod enc P w base spare held 1 e [v2] = some (d2, [])) :
    DataW.Trod enc P w base spare held t (.agg #[v0, v1, v2]) (.agg [d0, d1, d2]) [] := by
  refine ⟨2, ?_⟩
  have r3 : List.range 3 = [0, 1, 2] := rfl
  unfold DataW.trod
  rw [ht]
  simp [r3, hce, hC, Value.cells, t0, t1, t2]
end

theorem own : ownKnob Try.prog.godebug = none := by kernel_rfl
theorem cells28 : Try.prog.cellsOf 28 = 3 := by kernel_rfl
theorem cells5 : Try.prog.cellsOf 5 = 1 := by kernel_rfl
theorem in8 {a : Int} (h : (Lit.int .u8 a).wf = true) : 0 ≤ a ∧ a < 256 := by
  have := bounds_u8 h
  omega
theorem in64 {n : Int} (h : (Lit.int .i64 n).wf = true) : ham.In64 n := by
  have := bounds_i64 h
  unfold ham.In64
  omega

set_option maxRecDepth 100000 in
theorem lifted (os : Os) (started : os.Started) (H : Type) (enc : TypeId × Value → H) :
    ReturnsInHanded {} Try.checked os 4 .any (Rows.ham24SaysSpec.pre6 enc Try.prog Try.f4 Rows.ham24SaysRow.domain false) (Rows.ham24SaysSpec.post enc Try.prog Try.f4 false true false false) := by
  refine returnsInHanded_of_change (C := Try.checked) own started (by kernel_rfl) Try.func4
    (ChangeSpec.witness6 (enc := enc) (C := Try.checked) false ⟨#[], #[.int .i64 0, .agg #[.int .u8 0, .int .u8 0, .int .u8 0]], []⟩ 8 (by kernel_rfl) (by kernel_rfl) (by kernel_rfl) (by kernel_rfl)) ?_
  intro W base args ds gs before hval0 hW hcnd _
  have hval : ∀ (j : Nat) t v, Try.f4.params[j]? = some t → args[j]? = some v → Value.okWide Try.prog W .any base t v := hval0
  have hW' := hW
  obtain ⟨p, q, hA0, hV, rfl, hfz, hnd⟩ := hW
  have hA : DataW.TrodAll enc Try.prog W 0 (fun _ => true) true Try.f4.params.toList args.toList ds p := hA0
  rw [Try.params4] at hA hval
  obtain ⟨v0, vs0, d0, ds0, p0, q0, hargs, rfl, rfl, h0, r0⟩ := trodAll_cons hA
  obtain ⟨v1, vs1, d1, ds1, p1, q1, rfl, rfl, rfl, h1, r1⟩ := trodAll_cons r0
  obtain ⟨rfl, rfl, rfl⟩ := trodAll_nil r1
  obtain rfl : args = #[v0, v1] := by cases args; simp_all
  obtain ⟨rfl, rfl⟩ := trodVars_none hV
  obtain ⟨n, rfl, rfl, rfl, wn⟩ := open_int Try.underlying3 (hval 0 3 v0 rfl rfl) h0
  obtain ⟨c0, c1, c2, y0, y1, y2, m, rfl, rfl, rfl, hy0, hy1, hy2⟩ := open_array3 Try.underlying28 cells5 cells28 (hval 1 28 v1 rfl rfl) h1
  obtain ⟨a, e0, rfl, wa⟩ := DataW.trod_int Try.underlying5 hy0
  obtain ⟨b, e1, rfl, wb⟩ := DataW.trod_int Try.underlying5 hy1
  obtain ⟨c, e2, rfl, wc⟩ := DataW.trod_int Try.underlying5 hy2
  simp at e0 e1 e2
  subst e0 e1 e2
  clear hA0 hval0
  simp only [List.append_nil] at hW'
  have arrReads : ∀ (W' : World) (sp : Nat → Bool), DataW.Trod enc Try.prog W' 0 sp true 28 (.agg #[.int .u8 a, .int .u8 b, .int .u8 c]) (.agg [.lit (.int .u8 a), .lit (.int .u8 b), .lit (.int .u8 c)]) [] := fun W' sp =>
    shut_array3 Try.underlying28 cells5 cells28 (by simp [DataW.trod, Try.underlying5, wa]) (by simp [DataW.trod, Try.underlying5, wb]) (by simp [DataW.trod, Try.underlying5, wc])
  refine (ham.says_calls n a b c (in64 wn) ⟨in8 wa, in8 wb, in8 wc⟩ W).mono fun e W' ⟨he, hg⟩ => ?_
  subst he
  exact ⟨_, rfl, post_of_same (pa := []) (pv := []) hW' (fun _ _ _ => (trodAll_cons_mk (shut_bool Try.underlying4 _) trodAll_mk0)) (fun sp _ => (trodAll_cons_mk (shut_int Try.underlying3 wn) (trodAll_cons_mk (arrReads _ sp) trodAll_mk0))) (fun _ _ => rfl) rfl
    (hg.frame _) hg.2.1 (ok_one (by kernel_rfl) rfl (okWide_bool_mk Try.underlying4 _))⟩

theorem over : Rows.ham24SaysRow.holds Try.pinned (OpenSpec.ofChange Rows.ham24SaysSpec) :=
  OpenClaim.holds_of_wide 4 Try.f4 rfl rfl rfl rfl rfl rfl rfl ⟨rfl, rfl, rfl, rfl, rfl⟩ rfl rfl rfl rfl rfl (by kernel_rfl) Try.func4 (by kernel_rfl)
    (of_decide_eq_true (by kernel_rfl)) (by unfold Func.isWrapper; first | (rw [if_pos (by decide +kernel)]; kernel_rfl) | (rw [if_neg (by decide +kernel)]; exact ⟨rfl, rfl⟩))
    (fun os started H enc _ => lifted os started H enc)

/-- ████ THE STATEMENT ████ -/
theorem proved : Rows.Ham24SaysSaid :=
  over
#print axioms proved
end Go.Proofs.Ytjjkbnipokpmcaa.ham24Says
