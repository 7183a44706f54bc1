/- Plain lists and numbers: what the functions of layers 3 to 6 and 11 compute. No program in sight. -/
import GoSem.Core.Value
import Derived.Test.YtleokgmflelkcaaDoorRows
import Derived.WalkKit
import Derived.KernelRfl
import Derived.WalkLawsBesides
import Derived.WalkSpells
import Derived.Outline
import Derived.Lib.Hide
import Derived.Deep.Light
set_option linter.unusedSimpArgs false
set_option linter.unusedVariables false
namespace Go.Proofs.YtleokgmflelkcaaDoor
open Go

structure Sl where
  a : Option Addr
  n : Nat
  c : Nat

structure Adr where
  v : Int
  b : List Int
  hb : b.length = 16
  hr : ∀ x ∈ b, 0 ≤ x ∧ x ≤ 255
  deriving DecidableEq

def Adr.at (a : Adr) (i : Nat) : Int := a.b.getD i 0

def zeros (l : List Int) : Bool := l.all (· == 0)
def zerosA (a : Adr) : Bool := zeros (a.b.drop 4)
def bitsF (a : Adr) : Int := if a.v = 4 then (if zerosA a then 32 else 0) else if a.v = 6 then 128 else 0
def fourF (a : Adr) : Bool := decide (a.v = 4) && zerosA a
def sixF (a : Adr) : Bool := decide (a.v = 6)
def withinF (n m : Int) : Bool := decide (0 ≤ n) && decide (n ≤ m)

theorem zeros_iff (l : List Int) : zeros l = true ↔ ∀ j, j < l.length → l.getD j 0 = 0 := by
  unfold zeros
  rw [List.all_eq_true]
  constructor
  · intro h j hj
    have := h _ (List.getElem_mem hj)
    rw [List.getD_eq_getElem?_getD, List.getElem?_eq_getElem hj]
    simpa using this
  · intro h x hx
    obtain ⟨j, hj, rfl⟩ := List.getElem_of_mem hx
    have := h j hj
    rw [List.getD_eq_getElem?_getD, List.getElem?_eq_getElem hj] at this
    simpa using this
theorem zerosA_iff (a : Adr) : zerosA a = true ↔ ∀ j, j < 12 → a.at (4 + j) = 0 := by
  unfold zerosA Adr.at
  rw [zeros_iff]
  have := a.hb
  simp only [List.length_drop, this, List.getD_eq_getElem?_getD, List.getElem?_drop]

structure Pk where
  v : Int
  tos : Int
  flow : Int
  src : Adr
  dst : Adr
  proto : Int
  ttl : Int
  id : Int
  df : Bool
  more : Bool
  frag : Bool
  off : Int
  o : Sl
  d : Sl

def placed4F (p : Pk) : Bool :=
  withinF p.off 65528 && decide (p.off % 8 = 0) && decide (p.off + p.d.n ≤ 65535) && !(p.more && (decide (p.d.n = 0) || decide (p.d.n % 8 ≠ 0))) && (decide (p.off = 0) || decide (0 < p.d.n))
def f4F (p : Pk) : Bool :=
  decide (p.v = 4) && decide (p.flow = 0) && !p.frag && decide (p.id ≤ 65535) && fourF p.src && fourF p.dst &&
  withinF p.tos 255 && withinF p.proto 255 && withinF p.ttl 255 && placed4F p && decide (20 + p.o.n + p.d.n ≤ 65535)
def r6a (p : Pk) : Bool := decide (p.v = 6) && sixF p.src && sixF p.dst && !p.df && decide (p.o.n = 0) && decide (p.proto ≠ 44)
def r6b (p : Pk) : Bool := withinF p.tos 255 && withinF p.flow 1048575 && withinF p.proto 255 && withinF p.ttl 255
def r6c (p : Pk) : Bool :=
  if p.frag then withinF p.off 65535 && decide (p.off % 8 = 0) && decide (p.d.n ≤ 65527) && decide (p.off + p.d.n ≤ 65535) && (if p.d.n = 0 then decide (p.off = 0) && !p.more else !p.more || decide (p.d.n % 8 = 0))
  else decide (p.id = 0) && decide (p.off = 0) && !p.more && decide (p.d.n ≤ 65535)
def right6F (p : Pk) : Bool := r6a p && (r6b p && r6c p)
def head6F (p : Pk) : Int := if p.frag then 48 else 40
end Go.Proofs.YtleokgmflelkcaaDoor
namespace Go.Proofs.YtleokgmflelkcaaDoor
open Go Go.RowKit


def adrA (a : Adr) : Array Value := #[.int .i64 a.v, .int .u8 (a.at 0), .int .u8 (a.at 1), .int .u8 (a.at 2), .int .u8 (a.at 3), .int .u8 (a.at 4), .int .u8 (a.at 5), .int .u8 (a.at 6), .int .u8 (a.at 7), .int .u8 (a.at 8), .int .u8 (a.at 9), .int .u8 (a.at 10), .int .u8 (a.at 11), .int .u8 (a.at 12), .int .u8 (a.at 13), .int .u8 (a.at 14), .int .u8 (a.at 15)]



def pkA (p : Pk) : Array Value := #[.int .i64 p.v, .int .i64 p.tos, .int .i64 p.flow, .int .i64 p.src.v, .int .u8 (p.src.at 0), .int .u8 (p.src.at 1), .int .u8 (p.src.at 2), .int .u8 (p.src.at 3), .int .u8 (p.src.at 4), .int .u8 (p.src.at 5), .int .u8 (p.src.at 6), .int .u8 (p.src.at 7), .int .u8 (p.src.at 8), .int .u8 (p.src.at 9), .int .u8 (p.src.at 10), .int .u8 (p.src.at 11), .int .u8 (p.src.at 12), .int .u8 (p.src.at 13), .int .u8 (p.src.at 14), .int .u8 (p.src.at 15), .int .i64 p.dst.v, .int .u8 (p.dst.at 0), .int .u8 (p.dst.at 1), .int .u8 (p.dst.at 2), .int .u8 (p.dst.at 3), .int .u8 (p.dst.at 4), .int .u8 (p.dst.at 5), .int .u8 (p.dst.at 6), .int .u8 (p.dst.at 7), .int .u8 (p.dst.at 8), .int .u8 (p.dst.at 9), .int .u8 (p.dst.at 10), .int .u8 (p.dst.at 11), .int .u8 (p.dst.at 12), .int .u8 (p.dst.at 13), .int .u8 (p.dst.at 14), .int .u8 (p.dst.at 15), .int .i64 p.proto, .int .i64 p.ttl, .int .u32 p.id, .bool p.df, .bool p.more, .bool p.frag, .int .i64 p.off, .slice p.o.a p.o.n p.o.c, .slice p.d.a p.d.n p.d.c]

@[go_sem] theorem pkA_0 (p : Pk) : (pkA p)[0]? = some (.int .i64 p.v) := (rfl)
@[go_sem] theorem pkA_1 (p : Pk) : (pkA p)[1]? = some (.int .i64 p.tos) := (rfl)
@[go_sem] theorem pkA_2 (p : Pk) : (pkA p)[2]? = some (.int .i64 p.flow) := (rfl)
@[go_sem] theorem pkA_3 (p : Pk) : (pkA p)[3]? = some (.int .i64 p.src.v) := (rfl)
@[go_sem] theorem pkA_4 (p : Pk) : (pkA p)[4]? = some (.int .u8 (p.src.at 0)) := (rfl)
@[go_sem] theorem pkA_5 (p : Pk) : (pkA p)[5]? = some (.int .u8 (p.src.at 1)) := (rfl)
@[go_sem] theorem pkA_6 (p : Pk) : (pkA p)[6]? = some (.int .u8 (p.src.at 2)) := (rfl)
@[go_sem] theorem pkA_7 (p : Pk) : (pkA p)[7]? = some (.int .u8 (p.src.at 3)) := (rfl)
@[go_sem] theorem pkA_8 (p : Pk) : (pkA p)[8]? = some (.int .u8 (p.src.at 4)) := (rfl)
@[go_sem] theorem pkA_9 (p : Pk) : (pkA p)[9]? = some (.int .u8 (p.src.at 5)) := (rfl)
@[go_sem] theorem pkA_10 (p : Pk) : (pkA p)[10]? = some (.int .u8 (p.src.at 6)) := (rfl)
@[go_sem] theorem pkA_11 (p : Pk) : (pkA p)[11]? = some (.int .u8 (p.src.at 7)) := (rfl)
@[go_sem] theorem pkA_12 (p : Pk) : (pkA p)[12]? = some (.int .u8 (p.src.at 8)) := (rfl)
@[go_sem] theorem pkA_13 (p : Pk) : (pkA p)[13]? = some (.int .u8 (p.src.at 9)) := (rfl)
@[go_sem] theorem pkA_14 (p : Pk) : (pkA p)[14]? = some (.int .u8 (p.src.at 10)) := (rfl)
@[go_sem] theorem pkA_15 (p : Pk) : (pkA p)[15]? = some (.int .u8 (p.src.at 11)) := (rfl)
@[go_sem] theorem pkA_16 (p : Pk) : (pkA p)[16]? = some (.int .u8 (p.src.at 12)) := (rfl)
@[go_sem] theorem pkA_17 (p : Pk) : (pkA p)[17]? = some (.int .u8 (p.src.at 13)) := (rfl)
@[go_sem] theorem pkA_18 (p : Pk) : (pkA p)[18]? = some (.int .u8 (p.src.at 14)) := (rfl)
@[go_sem] theorem pkA_19 (p : Pk) : (pkA p)[19]? = some (.int .u8 (p.src.at 15)) := (rfl)
@[go_sem] theorem pkA_20 (p : Pk) : (pkA p)[20]? = some (.int .i64 p.dst.v) := (rfl)
@[go_sem] theorem pkA_21 (p : Pk) : (pkA p)[21]? = some (.int .u8 (p.dst.at 0)) := (rfl)
@[go_sem] theorem pkA_22 (p : Pk) : (pkA p)[22]? = some (.int .u8 (p.dst.at 1)) := (rfl)
@[go_sem] theorem pkA_23 (p : Pk) : (pkA p)[23]? = some (.int .u8 (p.dst.at 2)) := (rfl)
@[go_sem] theorem pkA_24 (p : Pk) : (pkA p)[24]? = some (.int .u8 (p.dst.at 3)) := (rfl)
@[go_sem] theorem pkA_25 (p : Pk) : (pkA p)[25]? = some (.int .u8 (p.dst.at 4)) := (rfl)
@[go_sem] theorem pkA_26 (p : Pk) : (pkA p)[26]? = some (.int .u8 (p.dst.at 5)) := (rfl)
@[go_sem] theorem pkA_27 (p : Pk) : (pkA p)[27]? = some (.int .u8 (p.dst.at 6)) := (rfl)
@[go_sem] theorem pkA_28 (p : Pk) : (pkA p)[28]? = some (.int .u8 (p.dst.at 7)) := (rfl)
@[go_sem] theorem pkA_29 (p : Pk) : (pkA p)[29]? = some (.int .u8 (p.dst.at 8)) := (rfl)
@[go_sem] theorem pkA_30 (p : Pk) : (pkA p)[30]? = some (.int .u8 (p.dst.at 9)) := (rfl)
@[go_sem] theorem pkA_31 (p : Pk) : (pkA p)[31]? = some (.int .u8 (p.dst.at 10)) := (rfl)
@[go_sem] theorem pkA_32 (p : Pk) : (pkA p)[32]? = some (.int .u8 (p.dst.at 11)) := (rfl)
@[go_sem] theorem pkA_33 (p : Pk) : (pkA p)[33]? = some (.int .u8 (p.dst.at 12)) := (rfl)
@[go_sem] theorem pkA_34 (p : Pk) : (pkA p)[34]? = some (.int .u8 (p.dst.at 13)) := (rfl)
@[go_sem] theorem pkA_35 (p : Pk) : (pkA p)[35]? = some (.int .u8 (p.dst.at 14)) := (rfl)
@[go_sem] theorem pkA_36 (p : Pk) : (pkA p)[36]? = some (.int .u8 (p.dst.at 15)) := (rfl)
@[go_sem] theorem pkA_37 (p : Pk) : (pkA p)[37]? = some (.int .i64 p.proto) := (rfl)
@[go_sem] theorem pkA_38 (p : Pk) : (pkA p)[38]? = some (.int .i64 p.ttl) := (rfl)
@[go_sem] theorem pkA_39 (p : Pk) : (pkA p)[39]? = some (.int .u32 p.id) := (rfl)
@[go_sem] theorem pkA_40 (p : Pk) : (pkA p)[40]? = some (.bool p.df) := (rfl)
@[go_sem] theorem pkA_41 (p : Pk) : (pkA p)[41]? = some (.bool p.more) := (rfl)
@[go_sem] theorem pkA_42 (p : Pk) : (pkA p)[42]? = some (.bool p.frag) := (rfl)
@[go_sem] theorem pkA_43 (p : Pk) : (pkA p)[43]? = some (.int .i64 p.off) := (rfl)
@[go_sem] theorem pkA_44 (p : Pk) : (pkA p)[44]? = some (.slice p.o.a p.o.n p.o.c) := (rfl)
@[go_sem] theorem pkA_45 (p : Pk) : (pkA p)[45]? = some (.slice p.d.a p.d.n p.d.c) := (rfl)
@[go_sem] theorem adrA_0 (p : Adr) : (adrA p)[0]? = some (.int .i64 p.v) := (rfl)
@[go_sem] theorem adrA_1 (p : Adr) : (adrA p)[1]? = some (.int .u8 (p.at 0)) := (rfl)
@[go_sem] theorem adrA_2 (p : Adr) : (adrA p)[2]? = some (.int .u8 (p.at 1)) := (rfl)
@[go_sem] theorem adrA_3 (p : Adr) : (adrA p)[3]? = some (.int .u8 (p.at 2)) := (rfl)
@[go_sem] theorem adrA_4 (p : Adr) : (adrA p)[4]? = some (.int .u8 (p.at 3)) := (rfl)
@[go_sem] theorem adrA_5 (p : Adr) : (adrA p)[5]? = some (.int .u8 (p.at 4)) := (rfl)
@[go_sem] theorem adrA_6 (p : Adr) : (adrA p)[6]? = some (.int .u8 (p.at 5)) := (rfl)
@[go_sem] theorem adrA_7 (p : Adr) : (adrA p)[7]? = some (.int .u8 (p.at 6)) := (rfl)
@[go_sem] theorem adrA_8 (p : Adr) : (adrA p)[8]? = some (.int .u8 (p.at 7)) := (rfl)
@[go_sem] theorem adrA_9 (p : Adr) : (adrA p)[9]? = some (.int .u8 (p.at 8)) := (rfl)
@[go_sem] theorem adrA_10 (p : Adr) : (adrA p)[10]? = some (.int .u8 (p.at 9)) := (rfl)
@[go_sem] theorem adrA_11 (p : Adr) : (adrA p)[11]? = some (.int .u8 (p.at 10)) := (rfl)
@[go_sem] theorem adrA_12 (p : Adr) : (adrA p)[12]? = some (.int .u8 (p.at 11)) := (rfl)
@[go_sem] theorem adrA_13 (p : Adr) : (adrA p)[13]? = some (.int .u8 (p.at 12)) := (rfl)
@[go_sem] theorem adrA_14 (p : Adr) : (adrA p)[14]? = some (.int .u8 (p.at 13)) := (rfl)
@[go_sem] theorem adrA_15 (p : Adr) : (adrA p)[15]? = some (.int .u8 (p.at 14)) := (rfl)
@[go_sem] theorem adrA_16 (p : Adr) : (adrA p)[16]? = some (.int .u8 (p.at 15)) := (rfl)
theorem pkA_src (p : Pk) : ∀ (j : Nat), j < 17 → (pkA p)[3 + j]? = (adrA p.src)[j]?
  | 0, _ => rfl
  | 1, _ => rfl
  | 2, _ => rfl
  | 3, _ => rfl
  | 4, _ => rfl
  | 5, _ => rfl
  | 6, _ => rfl
  | 7, _ => rfl
  | 8, _ => rfl
  | 9, _ => rfl
  | 10, _ => rfl
  | 11, _ => rfl
  | 12, _ => rfl
  | 13, _ => rfl
  | 14, _ => rfl
  | 15, _ => rfl
  | 16, _ => rfl
  | j + 17, h => by omega
theorem pkA_dst (p : Pk) : ∀ (j : Nat), j < 17 → (pkA p)[20 + j]? = (adrA p.dst)[j]?
  | 0, _ => rfl
  | 1, _ => rfl
  | 2, _ => rfl
  | 3, _ => rfl
  | 4, _ => rfl
  | 5, _ => rfl
  | 6, _ => rfl
  | 7, _ => rfl
  | 8, _ => rfl
  | 9, _ => rfl
  | 10, _ => rfl
  | 11, _ => rfl
  | 12, _ => rfl
  | 13, _ => rfl
  | 14, _ => rfl
  | 15, _ => rfl
  | 16, _ => rfl
  | j + 17, h => by omega
@[go_sem] theorem pkA_set_v (p : Pk) (x : Int) : (pkA p).setIfInBounds 0 (.int .i64 x) = pkA { p with v := x } := (rfl)
@[go_sem] theorem pkA_set_tos (p : Pk) (x : Int) : (pkA p).setIfInBounds 1 (.int .i64 x) = pkA { p with tos := x } := (rfl)
@[go_sem] theorem pkA_set_flow (p : Pk) (x : Int) : (pkA p).setIfInBounds 2 (.int .i64 x) = pkA { p with flow := x } := (rfl)
@[go_sem] theorem pkA_set_proto (p : Pk) (x : Int) : (pkA p).setIfInBounds 37 (.int .i64 x) = pkA { p with proto := x } := (rfl)
@[go_sem] theorem pkA_set_ttl (p : Pk) (x : Int) : (pkA p).setIfInBounds 38 (.int .i64 x) = pkA { p with ttl := x } := (rfl)
@[go_sem] theorem pkA_set_id (p : Pk) (x : Int) : (pkA p).setIfInBounds 39 (.int .u32 x) = pkA { p with id := x } := (rfl)
@[go_sem] theorem pkA_set_df (p : Pk) (x : Bool) : (pkA p).setIfInBounds 40 (.bool x) = pkA { p with df := x } := (rfl)
@[go_sem] theorem pkA_set_more (p : Pk) (x : Bool) : (pkA p).setIfInBounds 41 (.bool x) = pkA { p with more := x } := (rfl)
@[go_sem] theorem pkA_set_frag (p : Pk) (x : Bool) : (pkA p).setIfInBounds 42 (.bool x) = pkA { p with frag := x } := (rfl)
@[go_sem] theorem pkA_set_off (p : Pk) (x : Int) : (pkA p).setIfInBounds 43 (.int .i64 x) = pkA { p with off := x } := (rfl)
@[go_sem] theorem pkA_set_o (p : Pk) (a : Option Addr) (n c : Nat) : (pkA p).setIfInBounds 44 (.slice a n c) = pkA { p with o := ⟨a, n, c⟩ } := (rfl)
@[go_sem] theorem pkA_set_d (p : Pk) (a : Option Addr) (n c : Nat) : (pkA p).setIfInBounds 45 (.slice a n c) = pkA { p with d := ⟨a, n, c⟩ } := (rfl)
@[go_sem] theorem pkA_fold (p : Pk) : Value.agg #[.int .i64 p.v, .int .i64 p.tos, .int .i64 p.flow, .int .i64 p.src.v, .int .u8 (p.src.at 0), .int .u8 (p.src.at 1), .int .u8 (p.src.at 2), .int .u8 (p.src.at 3), .int .u8 (p.src.at 4), .int .u8 (p.src.at 5), .int .u8 (p.src.at 6), .int .u8 (p.src.at 7), .int .u8 (p.src.at 8), .int .u8 (p.src.at 9), .int .u8 (p.src.at 10), .int .u8 (p.src.at 11), .int .u8 (p.src.at 12), .int .u8 (p.src.at 13), .int .u8 (p.src.at 14), .int .u8 (p.src.at 15), .int .i64 p.dst.v, .int .u8 (p.dst.at 0), .int .u8 (p.dst.at 1), .int .u8 (p.dst.at 2), .int .u8 (p.dst.at 3), .int .u8 (p.dst.at 4), .int .u8 (p.dst.at 5), .int .u8 (p.dst.at 6), .int .u8 (p.dst.at 7), .int .u8 (p.dst.at 8), .int .u8 (p.dst.at 9), .int .u8 (p.dst.at 10), .int .u8 (p.dst.at 11), .int .u8 (p.dst.at 12), .int .u8 (p.dst.at 13), .int .u8 (p.dst.at 14), .int .u8 (p.dst.at 15), .int .i64 p.proto, .int .i64 p.ttl, .int .u32 p.id, .bool p.df, .bool p.more, .bool p.frag, .int .i64 p.off, .slice p.o.a p.o.n p.o.c, .slice p.d.a p.d.n p.d.c] = .agg (pkA p) := (rfl)
@[go_sem] theorem adrA_fold (p : Adr) : Value.agg #[.int .i64 p.v, .int .u8 (p.at 0), .int .u8 (p.at 1), .int .u8 (p.at 2), .int .u8 (p.at 3), .int .u8 (p.at 4), .int .u8 (p.at 5), .int .u8 (p.at 6), .int .u8 (p.at 7), .int .u8 (p.at 8), .int .u8 (p.at 9), .int .u8 (p.at 10), .int .u8 (p.at 11), .int .u8 (p.at 12), .int .u8 (p.at 13), .int .u8 (p.at 14), .int .u8 (p.at 15)] = .agg (adrA p) := (rfl)

theorem pkA_size (p : Pk) : (pkA p).size = 46 := (rfl)
theorem adrA_size (p : Adr) : (adrA p).size = 17 := (rfl)
attribute [irreducible] adrA pkA

/-- A run of cells read at once: kept whole, so that the walk does not unroll it. -/
def loadM (a : Addr) (n : Nat) : Sem (Array Value) := loadCells a n
def loadN (P : Program) (w : World) (a : Addr) (n : Nat) : Result (Array Value) := (loadCells a n).run P w
@[go_sem ↓] theorem loadCells_M (a : Addr) (n : Nat) : loadCells a n = loadM a n := (rfl)
@[go_sem] theorem run_loadM (P : Program) (w : World) (a : Addr) (n : Nat) : (loadM a n).run P w = loadN P w a n := (rfl)

/-- Block b holds these cells from off on. -/
def At (w : World) (b off : Nat) (cs : Array Value) : Prop := ∀ j, j < cs.size → w.cell? ⟨b, off + j, none⟩ = cs[j]?

theorem loadN_at {P : Program} {w : World} {b off n : Nat} {cs : Array Value} (h : At w b off cs) (hn : cs.size = n) : loadN P w ⟨b, off, none⟩ n = .ok cs w := by
  subst hn
  have hl : (loadCells ⟨b, off, none⟩ cs.toList.length).run P w = .ok cs.toList.toArray w :=
    run_loadCells_list (P := P) w ⟨b, off, none⟩ cs.toList (fun j v hv => by
      have hadd : (⟨b, off, none⟩ : Addr).add j = ⟨b, off + j, none⟩ := by unfold Addr.add; split <;> simp_all
      have hj : j < cs.size := by
        have := (List.getElem?_eq_some_iff.1 hv).1
        simpa using this
      rw [hadd, h j hj]
      simpa using hv)
  simp only [Array.length_toList, Array.toArray_toList] at hl
  exact hl

theorem At.src {w : World} {b : Nat} {p : Pk} (h : At w b 0 (pkA p)) : At w b 3 (adrA p.src) := by
  intro j hj
  rw [adrA_size] at hj
  have := h (3 + j) (by rw [pkA_size]; omega)
  rw [← pkA_src p j hj, ← this, Nat.zero_add]
theorem At.dst {w : World} {b : Nat} {p : Pk} (h : At w b 0 (pkA p)) : At w b 20 (adrA p.dst) := by
  intro j hj
  rw [adrA_size] at hj
  have := h (20 + j) (by rw [pkA_size]; omega)
  rw [← pkA_dst p j hj, ← this, Nat.zero_add]
theorem At.below {w w' : World} {b o B : Nat} {cs : Array Value} (h : At w b o cs) (hb : Below B w w') (hB : b < B) : At w' b o cs := by
  intro j hj
  rw [hb.cell (p := ⟨b, o + j, none⟩) hB, h j hj]
theorem At.new (w : World) (cs : Array Value) (t : TypeId) : At (w.alloc (.cells cs t)) w.heap.size 0 cs := by
  intro j hj
  rw [Nat.zero_add]
  exact World.cell?_alloc_new w cs t j

theorem At.cells {w : World} {b n : Nat} {cs : Array Value} (h : At w b 0 cs) (hn : cs.size = n) : ∀ j, j < n → w.cell? ⟨b, j, none⟩ = cs[j]? :=
  fun j hj => by have := h j (by omega); rwa [Nat.zero_add] at this

/-- The call returned v; of what was there nothing has turned. -/
def RB (v : Value) (w : World) (e : Ending) (w' : World) : Prop := e = .returned v ∧ Below w.heap.size w w'
theorem RB.mk' {v u : Value} {w w' : World} (h : u = v) (hb : Below w.heap.size w w') : RB v w (.returned u) w' := ⟨by rw [h], hb⟩

/-- The walk's own bookkeeping: w the world at the call's begin, W now, block b its box. -/
structure Fr (w W : World) (b : Nat) (cs : Array Value) : Prop where
  bel : Below w.heap.size w W
  at_ : At W b 0 cs
  lt : b < W.heap.size
theorem Fr.start (w : World) (cs : Array Value) (t : TypeId) : Fr w (w.alloc (.cells cs t)) w.heap.size cs :=
  ⟨(Below.refl _ _).alloc (Nat.le_refl _) _, At.new w cs t, by simp⟩
theorem Fr.call {w W W1 : World} {b : Nat} {cs : Array Value} (h : Fr w W b cs) (hb : Below W.heap.size W W1) : Fr w W1 b cs :=
  ⟨h.bel.trans (hb.mono h.bel.size), h.at_.below hb h.lt, Nat.lt_of_lt_of_le h.lt hb.size⟩
theorem Fr.cells {w W : World} {b n : Nat} {cs : Array Value} (h : Fr w W b cs) (hn : cs.size = n) : ∀ j, j < n → W.cell? ⟨b, j, none⟩ = cs[j]? := h.at_.cells hn
theorem adrA_at (a : Adr) : ∀ k : Nat, k < 12 → (adrA a)[5 + k]? = some (.int .u8 (a.at (4 + k)))
  | 0, _ => adrA_5 a
  | 1, _ => adrA_6 a
  | 2, _ => adrA_7 a
  | 3, _ => adrA_8 a
  | 4, _ => adrA_9 a
  | 5, _ => adrA_10 a
  | 6, _ => adrA_11 a
  | 7, _ => adrA_12 a
  | 8, _ => adrA_13 a
  | 9, _ => adrA_14 a
  | 10, _ => adrA_15 a
  | 11, _ => adrA_16 a
  | k + 12, h => by omega
theorem Fr.ad {w W : World} {b : Nat} {a : Adr} (h : Fr w W b (adrA a)) :
    (∀ j, j < 17 → W.cell? ⟨b, j, none⟩ = (adrA a)[j]?) ∧ loadN Tryd.prog W ⟨b, 0, none⟩ 17 = .ok (adrA a) W :=
  ⟨h.cells (adrA_size a), loadN_at h.at_ (adrA_size _)⟩
theorem Fr.pk {w W : World} {b : Nat} {p : Pk} (h : Fr w W b (pkA p)) :
    (∀ j, j < 46 → W.cell? ⟨b, j, none⟩ = (pkA p)[j]?) ∧ loadN Tryd.prog W ⟨b, 0, none⟩ 46 = .ok (pkA p) W ∧ loadN Tryd.prog W ⟨b, 3, none⟩ 17 = .ok (adrA p.src) W ∧ loadN Tryd.prog W ⟨b, 20, none⟩ 17 = .ok (adrA p.dst) W :=
  ⟨h.cells (pkA_size p), loadN_at h.at_ (pkA_size _), loadN_at h.at_.src (adrA_size _), loadN_at h.at_.dst (adrA_size _)⟩
end Go.Proofs.YtleokgmflelkcaaDoor
