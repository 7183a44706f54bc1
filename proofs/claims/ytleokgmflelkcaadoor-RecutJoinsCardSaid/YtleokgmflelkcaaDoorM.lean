/- Plain lists and numbers: what the functions of layers 3 to 6 and 11 compute. No program in sight. -/
import GoSem.Core.Value
namespace Go.Proofs.YtleokgmflelkcaaDoor
open Go

structure Sl where
  a : Option Addr
  n : Nat
  c : Nat

structure Adr where
  v : Int
  b : List Int
  hb : b.length = 16
  hr : ∀ x ∈ b, 0 ≤ x ∧ x ≤ 255
  deriving DecidableEq

def Adr.at (a : Adr) (i : Nat) : Int := a.b.getD i 0

def zeros (l : List Int) : Bool := l.all (· == 0)
def zerosA (a : Adr) : Bool := zeros (a.b.drop 4)
def bitsF (a : Adr) : Int := if a.v = 4 then (if zerosA a then 32 else 0) else if a.v = 6 then 128 else 0
def fourF (a : Adr) : Bool := decide (a.v = 4) && zerosA a
def sixF (a : Adr) : Bool := decide (a.v = 6)
def withinF (n m : Int) : Bool := decide (0 ≤ n) && decide (n ≤ m)

theorem zeros_iff (l : List Int) : zeros l = true ↔ ∀ j, j < l.length → l.getD j 0 = 0 := by
  unfold zeros
  rw [List.all_eq_true]
  constructor
  · intro h j hj
    have := h _ (List.getElem_mem hj)
    rw [List.getD_eq_getElem?_getD, List.getElem?_eq_getElem hj]
    simpa using this
  · intro h x hx
    obtain ⟨j, hj, rfl⟩ := List.getElem_of_mem hx
    have := h j hj
    rw [List.getD_eq_getElem?_getD, List.getElem?_eq_getElem hj] at this
    simpa using this
theorem zerosA_iff (a : Adr) : zerosA a = true ↔ ∀ j, j < 12 → a.at (4 + j) = 0 := by
  unfold zerosA Adr.at
  rw [zeros_iff]
  have := a.hb
  simp only [List.length_drop, this, List.getD_eq_getElem?_getD, List.getElem?_drop]

structure Pk where
  v : Int
  tos : Int
  flow : Int
  src : Adr
  dst : Adr
  proto : Int
  ttl : Int
  id : Int
  df : Bool
  more : Bool
  frag : Bool
  off : Int
  o : Sl
  d : Sl

def placed4F (p : Pk) : Bool :=
  withinF p.off 65528 && decide (p.off % 8 = 0) && decide (p.off + p.d.n ≤ 65535) && !(p.more && (decide (p.d.n = 0) || decide (p.d.n % 8 ≠ 0))) && (decide (p.off = 0) || decide (0 < p.d.n))
def f4F (p : Pk) : Bool :=
  decide (p.v = 4) && decide (p.flow = 0) && !p.frag && decide (p.id ≤ 65535) && fourF p.src && fourF p.dst &&
  withinF p.tos 255 && withinF p.proto 255 && withinF p.ttl 255 && placed4F p && decide (20 + p.o.n + p.d.n ≤ 65535)
def r6a (p : Pk) : Bool := decide (p.v = 6) && sixF p.src && sixF p.dst && !p.df && decide (p.o.n = 0) && decide (p.proto ≠ 44)
def r6b (p : Pk) : Bool := withinF p.tos 255 && withinF p.flow 1048575 && withinF p.proto 255 && withinF p.ttl 255
def r6c (p : Pk) : Bool :=
  if p.frag then withinF p.off 65535 && decide (p.off % 8 = 0) && decide (p.d.n ≤ 65527) && decide (p.off + p.d.n ≤ 65535) && (if p.d.n = 0 then decide (p.off = 0) && !p.more else !p.more || decide (p.d.n % 8 = 0))
  else decide (p.id = 0) && decide (p.off = 0) && !p.more && decide (p.d.n ≤ 65535)
def right6F (p : Pk) : Bool := r6a p && (r6b p && r6c p)
def head6F (p : Pk) : Int := if p.frag then 48 else 40
end Go.Proofs.YtleokgmflelkcaaDoor
