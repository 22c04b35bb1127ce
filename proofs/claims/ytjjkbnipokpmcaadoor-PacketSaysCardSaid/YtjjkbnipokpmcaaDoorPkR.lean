/-
  Packets: the document's byte as a number.
-/
import Derived.Test.YtjjkbnipokpmcaaDoorPkO
namespace Go.Proofs.YtjjkbnipokpmcaaDoor.pk
open Go Go.Nx

noncomputable def c_rget : FuncId → Option Con := conOf [(18, tRPut), (29, ones.tOnes)]
theorem kc_rget : ∀ f T, c_rget f = some T → Known Tryd.prog [] f T := (Knowns.cons kRPut (.cons ones.kOnes .nil)).get
noncomputable def X_rget : Cx := { P := Tryd.prog, con := c_rget, glob := [], m := 0, loops := [] }
noncomputable def t_rget : Con := fun args regs => if regs.length = 0 then nfun Tryd.prog [] c_rget [(0, [0, 4], unroll X_rget 0 [0, 4] [2, 3] (bodyLoop Tryd.f22 0) 17)] Tryd.f22 args regs else .fail
theorem k_rget : Known Tryd.prog [] 22 t_rget := known_loops 0 Tryd.func22 rfl (by kernel_rfl) mixed kc_rget (LAll.one (id := 0) (body := bodyLoop Tryd.f22 0) (by kernel_rfl) rfl (unroll_ok (X := X_rget) kc_rget mixed (LAll.none (by kernel_rfl)) [0, 4] [2, 3] 17))
noncomputable def hitR (b : Int) (k : Nat) : Bool := decide ((ones.bl (IntKind.i64.wrap (x8 (put (k : Int)) b)).toNat : Int) ≤ 1)
noncomputable def rgetE (b : Int) (R : Out → Prop) : List Nat → Prop
  | [] => R (oG 0 false)
  | k :: ks => (0 ≤ (k : Int) ∧ (k : Int) < 16) ∧ ((0 ≤ IntKind.i64.wrap (x8 (put (k : Int)) b) ∧ IntKind.i64.wrap (x8 (put (k : Int)) b) < 9223372036854775808) ∧ sel (hitR b k) (R (oG (k : Int) true)) (rgetE b R ks))
theorem rget_tree (b : Int) (R : Out → Prop) : (t_rget [.c (.i .u8 b)] []).run R = rgetE b R (List.range 16) := by kernel_rfl
theorem x8_comm (a b : Int) : x8 a b = x8 b a := by
  unfold x8 bits
  simp only [BitVec.xor_comm]
theorem bl_pc : ∀ x < 256, ones.bl x = pcTo x 8 := by decide +kernel
theorem hitR_eq (b : Int) (k : Nat) : hitR b k = hit b k := by
  unfold hitR hit pc
  have h := x8_in b (put (k : Int))
  rw [x8_comm (put (k : Int)) b]
  have w : IntKind.i64.wrap (x8 b (put (k : Int))) = x8 b (put (k : Int)) := by rw [IntKind.wrap_i64]; omega
  rw [w, bl_pc _ (by omega)]
theorem rgetE_in {b : Int} {R : Out → Prop} : ∀ {l : List Nat}, (∀ k ∈ l, k < 16) → R (oG ((l.find? (hit b)).getD 0 : Nat) (l.find? (hit b)).isSome) → rgetE b R l
  | [], _, h => h
  | k :: ks, hl, h => by
    have hk16 := hl k (by simp)
    have hx := x8_in (put (k : Int)) b
    have w : IntKind.i64.wrap (x8 (put (k : Int)) b) = x8 (put (k : Int)) b := by rw [IntKind.wrap_i64]; omega
    refine ⟨⟨by omega, by omega⟩, ⟨by omega, by omega⟩, ?_⟩
    rw [hitR_eq]
    rw [List.find?_cons] at h
    cases hk : hit b k with
    | true => rw [hk] at h; exact h
    | false => rw [hk] at h; exact rgetE_in (fun j hj => hl j (by simp [hj])) h
set_option maxRecDepth 100000 in
theorem kRGet : Known Tryd.prog [] 22 tGet := by
  refine k_rget.less fun args regs R h => Box.out ?_
  unfold tGet at h
  split at h
  case h_2 => exact h.elim
  rename_i b
  exact Box.of_eq (rget_tree b R) (rgetE_in (fun k hk => List.mem_range.1 hk) h)
end Go.Proofs.YtjjkbnipokpmcaaDoor.pk
