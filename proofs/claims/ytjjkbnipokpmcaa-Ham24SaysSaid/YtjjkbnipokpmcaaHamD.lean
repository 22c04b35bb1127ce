/-
  ham24: the document's Put24 and Get24: their walks; what is read is the same.
-/
import Derived.Test.YtjjkbnipokpmcaaHamB
namespace Go.Proofs.Ytjjkbnipokpmcaa.ham
open Go Go.Nx

noncomputable def cRG : FuncId → Option Con := conOf [(21, tPutR), (23, tDataR)]
theorem kcRG : ∀ f T, cRG f = some T → Known Try.prog [] f T := (Knowns.cons kPutR (Knowns.cons kDataR Knowns.nil)).get
noncomputable def tPutRB : Con := fun args regs => nfun Try.prog [] cRG [] Try.f13 args regs
theorem kPutRB : Known Try.prog [] 13 tPutRB := known_inl Try.func13 rfl (by kernel_rfl) mixed kcRG (by kernel_rfl)
noncomputable def bytes3i (w : Int) : NS := .v (.ag [.i .u8 (IntKind.u8.wrap w), .i .u8 (IntKind.u8.wrap (shrv .i64 w 8)), .i .u8 (IntKind.u8.wrap (shrv .i64 w 16))])
theorem putRB_tree (n : Int) (R : Out → Prop) : (tPutRB [.c (.i .i64 n)] []).run R = (In64 n ∧ R ⟨bytes3i (u32 (wordv (BitVec.ofInt 64 n))), []⟩) := by kernel_rfl
theorem shr_u32i (v : BitVec 32) (j : Nat) (hj : j ≤ 32) : shrv .i64 (u32 v) (j : Int) = u32 (v >>> j) := by
  rw [← shr_u32 v j hj]
  unfold shrv
  have e1 : min (j : Int).toNat IntKind.i64.bits = j := by
    show min (j : Int).toNat 64 = j
    rw [Int.toNat_natCast]; omega
  have e2 : min (j : Int).toNat IntKind.u32.bits = j := by
    show min (j : Int).toNat 32 = j
    rw [Int.toNat_natCast]; omega
  rw [e1, e2]
theorem bytes3i_bv (v : BitVec 32) : bytes3i (u32 v) = bytesv v := by
  unfold bytes3i bytesv
  have e8 : shrv .i64 (u32 v) 8 = _ := shr_u32i v 8 (by decide)
  have e16 : shrv .i64 (u32 v) 16 = _ := shr_u32i v 16 (by decide)
  rw [e8, e16, wrap_u8, wrap_u8, wrap_u8, Nx.ofInt_u32, Nx.ofInt_u32, Nx.ofInt_u32]
  rfl
theorem kPutRV : Known Try.prog [] 13 tPutV := by
  refine kPutRB.less fun args regs R h => ?_
  unfold tPutV at h
  split at h
  case h_2 => exact h.elim
  rename_i n
  rw [putRB_tree, bytes3i_bv]
  exact h

noncomputable abbrev fGet24 := Try.f15
noncomputable def XRG : Cx := { P := Try.prog, con := cRG, glob := [], m := 0, loops := [] }
noncomputable def tGetRB : Con := fun args regs => if regs.length = 0 then nfun Try.prog [] cRG [(0, [4, 5], unroll XRG 0 [4, 5] [2, 3] (bodyLoop fGet24 0) 30)] fGet24 args regs else .fail
theorem kGetRB : Known Try.prog [] 15 tGetRB := known_loops 0 Try.func15 rfl (by kernel_rfl) mixed kcRG
  (LAll.one (id := 0) (body := bodyLoop fGet24 0) (by kernel_rfl) rfl (unroll_ok (X := XRG) kcRG mixed (LAll.none (by kernel_rfl)) [4, 5] [2, 3] 30))
noncomputable def wordi (a b c : Int) : Int := bits .or .i64 (bits .or .i64 (IntKind.i64.wrap a) (shlv .i64 (IntKind.i64.wrap b) 8)) (shlv .i64 (IntKind.i64.wrap c) 16)
def In32 (w : Int) : Prop := 0 ≤ w ∧ w < 4294967296
def dI (w : Int) : Int := i64 (datv (BitVec.ofInt 32 w))
/-- A word that is some number's: it is it; another one: so says K. -/
noncomputable def tryW (w : Int) (R : Out → Prop) (K : Prop) : Prop := In32 w ∧ (In64 (dI w) ∧ sel (u32 (wordv (BitVec.ofInt 64 (dI w))) == w) (In32 w ∧ R (some2 (dI w))) K)
noncomputable def chain (w : Int) (R : Out → Prop) : List Nat → Prop
  | [] => R none2
  | i :: is => tryW (bits .xor .i64 w (shlv .i64 1 (Int.ofNat i))) R (chain w R is)
theorem getRB_tree (a b c : Int) (R : Out → Prop) : (tGetRB [.ag [.i .u8 a, .i .u8 b, .i .u8 c]] []).run R =
    tryW (wordi a b c) R (chain (wordi a b c) R (List.range 24)) := by kernel_rfl
end Go.Proofs.Ytjjkbnipokpmcaa.ham
