/-
  Pages, magazines, a machine, its store, by value.
-/
import Derived.Test.YtjfgphfdaghilaaGreatDoorPkE
set_option linter.unusedVariables false
namespace Go.Proofs.YtjfgphfdaghilaaGreatDoor.ac
open Go Go.Nx

/-- Three numbers; a bool. -/
def K3 : List CK := [.i .i64, .i .i64, .i .i64]
def K1 : List CK := [.b]
/-- A page. -/
structure Pg where
  mg : Int
  pn : Int
  sb : Int
  c : List (List Sc)
  op : Int
  rows : List Int
  th : List (List Sc)
  ex : List (List Sc)
  lk : List (List Sc)
  ld : Bool
  df : Int
/-- What a page is made of. -/
def pgSch : List Part := [.i .i64, .i .i64, .i .i64, .ar K1 11, .i .i64, .ai .u8 1000, .ar K1 25, .lr K3, .ar K3 6, .b, .i .i64]
def plSch : List Part := [.i .i64, .i .i64, .i .i64]
def Pg.row (p : Pg) : List FC := [.i p.mg, .i p.pn, .i p.sb, .rs p.c, .i p.op, .is p.rows, .rs p.th, .rs p.ex, .rs p.lk, .b p.ld, .i p.df]
def Pg.key (p : Pg) : List FC := [.i p.mg, .i p.pn, .i p.sb]
/-- A page's stretches between what stands ahead of it and behind it; x: its enhancements' cell. -/
def pgSegs (p : Pg) (x : NC) (pre : List NC) (post : List NC → List Seg) : List Seg :=
  .cells (pre ++ [.i .i64 p.mg, .i .i64 p.pn, .i .i64 p.sb]) :: .recs K1 11 p.c :: .cells [.i .i64 p.op] :: .ints .u8 1000 p.rows :: .recs K1 25 p.th :: .cells [x] :: .recs K3 6 p.lk :: post [.b p.ld, .i .i64 p.df]
def pgZ : Pg := ⟨0, 0, 0, List.replicate 11 [.b false], 0, List.replicate 1000 0, List.replicate 25 [.b false], [], List.replicate 6 [.i 0, .i 0, .i 0], false, 0⟩
/-- A header. -/
structure Hd where
  mg : Int
  pn : Int
  sb : Int
  c : List (List Sc)
  op : Int
def hdZ : Hd := ⟨0, 0, 0, List.replicate 11 [.b false], 0⟩
/-- What is known of a magazine. -/
structure Mg where
  opn : Bool
  p : Pg
  x : NC
  h : Hd
  t : NC
  bg : Bool
  rg : Int
  td : Bool
def mgSegs (m : Mg) (pre : List NC) (post : List NC → List Seg) : List Seg :=
  pgSegs m.p m.x (pre ++ [.b m.opn]) fun q => .cells (q ++ [.i .i64 m.h.mg, .i .i64 m.h.pn, .i .i64 m.h.sb]) :: .recs K1 11 m.h.c :: post [.i .i64 m.h.op, m.t, .b m.bg, .i .i64 m.rg, .b m.td]
def mgZ : Mg := ⟨false, pgZ, .sn, hdZ, .sn, false, 0, false⟩
/-- What the last service told. -/
structure Inf where
  c : List NC
def infZ : List NC := [.i .i64 0, .i .i64 0, .i .i64 0, .i .i64 0, .i .i64 0, .i .i64 0, .i .i64 0, .i .i64 0, .i .i64 0, .s ByteArray.empty, .b false]
/-- A machine; its store is region number r. -/
def mcSegs (r : Nat) (v : Nat → Mg) (inf : List NC) : List Seg :=
  mgSegs (v 0) [.p r 0 0] fun q => mgSegs (v 1) q fun q => mgSegs (v 2) q fun q => mgSegs (v 3) q fun q => mgSegs (v 4) q fun q => mgSegs (v 5) q fun q => mgSegs (v 6) q fun q => mgSegs (v 7) q fun q => mgSegs (v 8) q fun q => [.cells (q ++ inf)]
noncomputable def mcReg (r : Nat) (v : Nat → Mg) (inf : List NC) : Reg := ⟨9741, 223, .sg (mcSegs r v inf)⟩
/-- A store; its map, its order. -/
noncomputable def stReg (most : Int) (mp : Nat) (ord : NC) (a b c : Int) (pin : Bool) : Reg := ⟨7, 268, .cells [.i .i64 most, .m mp, ord, .i .i64 a, .i .i64 b, .i .i64 c, .b pin]⟩
noncomputable def mpReg (l : List (List FC × List FC)) : Reg := ⟨0, 266, .mp plSch pgSch l⟩
end Go.Proofs.YtjfgphfdaghilaaGreatDoor.ac
