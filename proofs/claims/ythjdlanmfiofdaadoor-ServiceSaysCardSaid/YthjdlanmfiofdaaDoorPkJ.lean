/-
  Packets: the packet of bytes.
-/
import Derived.Test.YthjdlanmfiofdaaDoorPkI
namespace Go.Proofs.YthjdlanmfiofdaaDoor.pk
open Go Go.Nx

def oPE (k : Nat) : Out := ⟨.tu [.ag [.i .i64 0, .i .i64 0, .i .i64 0, .i .i64 0, .sn], .c (.e k)], []⟩
def oPk (mag row kind code : Int) (ds : List Int) : Out := ⟨.tu [.ag [.i .i64 mag, .i .i64 row, .i .i64 kind, .i .i64 code, .h 0 0 ds.length], .c .en], [some ⟨1, 5, .ints .u8 ds⟩]⟩
/-- The row of two numbers; the magazine of one. -/
noncomputable def rowOf (x y : Int) : Int := bits .or .i64 (shlv .i64 y 1) (IntKind.i64.wrap (x.tdiv 8))
def magOf (x : Int) : Int := bif x.tmod 8 == 0 then 8 else x.tmod 8
def Hd (bs : List Int) : List Int := List.drop 0 (List.take (2 : Int).toNat bs)
def Tl (bs : List Int) : List Int := List.drop (2 : Int).toNat (List.take bs.length bs)
def Ut (l : List Int) : List Int := List.take (l.length - (1 : Int).toNat) (List.drop (0 + (1 : Int).toNat) l)
noncomputable def restE (bs : List Int) (m r : Int) (R : Out → Prop) : Prop :=
  sel (decide (2 ≤ (bs.length : Int))) ((0 < (Tl bs).length ∧ (Tl bs).length ≤ 1000000) ∧ sel (kindF r == 0) (R (oPE 2)) (sel (decide (r ≥ 26))
    (sel (decide (0 < ((Tl bs).length : Int))) (sel (decide (0 + (0 : Int).toNat < (Tl bs).length)) (sel (!getB ((Tl bs).getD 0 0)) (R (oPE 1))
      (sel (decide (1 ≤ ((Tl bs).length : Int))) (sel (decide (0 + (1 : Int).toNat + ((Tl bs).length - (1 : Int).toNat) ≤ (Tl bs).length)) ((0 < (Ut (Tl bs)).length ∧ (Ut (Tl bs)).length ≤ 1000000) ∧ R (oPk m r (kindF r) (getN ((Tl bs).getD 0 0)) (Ut (Tl bs)))) False) False)) False) False)
    (R (oPk m r (kindF r) 0 (Tl bs))))) False
theorem read_tree (bs : List Int) (R : Out → Prop) : (t_read [.c (.l .u8 bs)] []).run R =
    sel ((bs.length : Int) != 42) (R (oPE 0)) (sel (decide (2 ≤ (bs.length : Int))) ((Hd bs).length = 2 ∧ sel (getB ((Hd bs).getD 0 0) && getB ((Hd bs).getD 1 0))
      (sel ((getN ((Hd bs).getD 0 0)).tmod 8 == 0) (restE bs 8 (rowOf (getN ((Hd bs).getD 0 0)) (getN ((Hd bs).getD 1 0))) R) (restE bs ((getN ((Hd bs).getD 0 0)).tmod 8) (rowOf (getN ((Hd bs).getD 0 0)) (getN ((Hd bs).getD 1 0))) R))
      (R (oPE 1))) False) := by kernel_rfl
/-- What is behind the address. -/
noncomputable def bodyT (a b : Int) (ds : List Int) : Tr Out :=
  .br (getB a && getB b)
    (.br (decide (kindF (rowOf (getN a) (getN b)) = 0)) (.ret (oPE 2))
      (.br (decide (rowOf (getN a) (getN b) ≥ 26))
        (.br (getB (ds.getD 0 0)) (.ret (oPk (magOf (getN a)) (rowOf (getN a) (getN b)) (kindF (rowOf (getN a) (getN b))) (getN (ds.getD 0 0)) (ds.drop 1))) (.ret (oPE 1)))
        (.ret (oPk (magOf (getN a)) (rowOf (getN a) (getN b)) (kindF (rowOf (getN a) (getN b))) 0 ds))))
    (.ret (oPE 1))
noncomputable def tRead : Con := fun args regs => match args, regs with
  | [.c (.l .u8 bs)], [] => .br (decide (bs.length = 42)) (bodyT (bs.getD 0 0) (bs.getD 1 0) (bs.drop 2)) (.ret (oPE 0))
  | [.c .sn], [] => .ret (oPE 0)
  | _, _ => .fail
theorem read_nil (R : Out → Prop) : (t_read [.c .sn] []).run R = R (oPE 0) := by kernel_rfl
theorem rest_in {a b : Int} {ds : List Int} {m r : Int} {R : Out → Prop} (h40 : ds.length = 40)
    (h : sel (decide (kindF r = 0)) (R (oPE 2)) (sel (decide (r ≥ 26)) (sel (getB (ds.getD 0 0)) (R (oPk m r (kindF r) (getN (ds.getD 0 0)) (ds.drop 1))) (R (oPE 1))) (R (oPk m r (kindF r) 0 ds)))) : restE (a :: b :: ds) m r R := by
  have eT : Tl (a :: b :: ds) = ds := by
    show List.drop 2 (List.take (a :: b :: ds).length (a :: b :: ds)) = ds
    rw [List.take_length]
    rfl
  have eU : Ut ds = ds.drop 1 := by
    show List.take (ds.length - 1) (List.drop 1 ds) = _
    rw [List.take_of_length_le (by rw [List.length_drop]; exact Nat.le_refl _)]
  have e1 : (0 : Int).toNat = 0 := rfl
  have e2 : (1 : Int).toNat = 1 := rfl
  unfold restE
  rw [eT, eU, e1, e2]
  refine selT (dT (by simp; omega)) ⟨⟨by omega, by omega⟩, ?_⟩
  rcases sel_iff.1 h with ⟨c, h⟩ | ⟨c, h⟩
  · exact selT (by rw [beq_iff_eq]; exact of_decide_eq_true c) h
  · refine selF (by rw [beq_eq_false_iff_ne]; exact of_decide_eq_false c) ?_
    rcases sel_iff.1 h with ⟨c, h⟩ | ⟨c, h⟩
    · refine selT c (selT (dT (by omega)) (selT (dT (by omega)) ?_))
      rcases sel_iff.1 h with ⟨c, h⟩ | ⟨c, h⟩
      · refine selF (by rw [c]; rfl) (selT (dT (by omega)) (selT (dT (by omega)) ⟨⟨?_, ?_⟩, h⟩))
        · rw [List.length_drop]; omega
        · rw [List.length_drop]; omega
      · exact selT (by rw [c]; rfl) h
    · exact selF c h
theorem read_in {bs : List Int} {R : Out → Prop} (h : sel (decide (bs.length = 42)) ((bodyT (bs.getD 0 0) (bs.getD 1 0) (bs.drop 2)).run R) (R (oPE 0))) : Box ((t_read [.c (.l .u8 bs)] []).run R) := by
  refine Box.of_eq (read_tree bs R) ?_
  rcases sel_iff.1 h with ⟨c, h⟩ | ⟨c, h⟩
  · have c := of_decide_eq_true c
    match bs, c with
    | a :: b :: ds, c =>
      have h40 : ds.length = 40 := by simpa using c
      have eH : Hd (a :: b :: ds) = [a, b] := rfl
      have h : (bodyT a b ds).run R := h
      rw [eH]
      refine selF (by simp [bne]; omega) (selT (dT (by simp; omega)) ⟨rfl, ?_⟩)
      show sel (getB a && getB b) _ _
      rcases sel_iff.1 h with ⟨c, h⟩ | ⟨c, h⟩
      · refine selT c ?_
        show sel ((getN a).tmod 8 == 0) (restE (a :: b :: ds) 8 (rowOf (getN a) (getN b)) R) (restE (a :: b :: ds) ((getN a).tmod 8) (rowOf (getN a) (getN b)) R)
        unfold magOf at h
        cases hm : ((getN a).tmod 8 == 0) with
        | true => rw [hm] at h; exact rest_in h40 h
        | false => rw [hm] at h; exact rest_in h40 h
      · exact selF c h
  · have c := of_decide_eq_false c
    exact selT (by rw [bne_iff_ne]; omega) h
set_option maxRecDepth 100000 in
theorem kRead : Known Tryd.prog GL 15 tRead := by
  refine k_read.less fun args regs R h => Box.out ?_
  unfold tRead at h
  split at h
  case h_3 => exact h.elim
  case h_1 bs => exact read_in h
  case h_2 => exact Box.of_eq (read_nil R) h
end Go.Proofs.YthjdlanmfiofdaaDoor.pk
