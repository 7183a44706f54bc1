/- RecutTwice, plain. -/
import Derived.Test.YtleokgmflelkcaaDoorVH1
import Derived.Test.YtleokgmflelkcaaDoorVH2
set_option linter.unusedSimpArgs false
set_option linter.unusedVariables false
namespace Go.Proofs.YtleokgmflelkcaaDoor
open Go Go.RowKit

theorem half_len (p : Pk) (os ds : List Int) : (halfDs p os ds).length = halfL p os ds := by
  have := half_le p os ds
  unfold halfDs
  rw [List.length_take]; omega
theorem half_pr (p : Pk) (os ds : List Int) : PR (halfP p os ds).bare (halfP p os ds).more (halfP p os ds).off (rightOs os) (halfDs p os ds) := by
  have b1 := lrestF_range p.tos
  have b2 := lrestF_range p.proto
  have b3 := lrestF_range p.ttl
  have b4 : p.id.tmod 65536 ≤ 65535 := by have := Int.tmod_lt_of_pos p.id (show (0 : Int) < 65536 by decide); omega
  have c1 := rightOs_len os
  have c2 := rightDs_len os ds
  have c3 := half_le p os ds
  have c4 := lrestF_le p.off 8000 (by decide)
  have c5 := half_len p os ds
  have c6 : halfN p os ds ≤ 65535 - 8 * (lrestF p.off 8000).toNat := by unfold halfN; omega
  have c7 : (rightDs os ds).length ≤ 65515 - (rightOs os).length := by unfold rightDs; rw [List.length_take]; omega
  have W : ∀ n : Int, 0 ≤ n ∧ n ≤ 255 → withinF n 255 = true := fun n h => by unfold withinF; rw [decide_eq_true h.1, decide_eq_true h.2]; rfl
  have ho : (halfP p os ds).off = if halfL p os ds = 0 then 0 else 8 * lrestF p.off 8000 := rfl
  have hm : (halfP p os ds).more = halfM p os ds := rfl
  have hcase := half_parts p os ds
  refine ⟨(barOk_iff _).2 ⟨⟨⟨⟨⟨⟨⟨⟨rfl, rfl⟩, rfl⟩, b4⟩, adrK_four _⟩, adrK_four _⟩, W _ b1⟩, W _ b2⟩, W _ b3⟩, ?_, ?_, ?_, ?_, ?_, ?_, ?_, rightOs_valid os⟩
  · rw [ho]; split <;> omega
  · rw [ho]; split <;> omega
  · rw [ho]; split <;> omega
  · rw [ho, c5]; split
    · omega
    · rcases hcase with ⟨-, -, -, c, -⟩ | ⟨-, -, c⟩ <;> omega
  · rw [hm, c5]; intro h
    rcases hcase with ⟨-, -, c, c', -⟩ | ⟨c, -⟩
    · omega
    · rw [h] at c; cases c
  · rw [ho, c5]; split <;> omega
  · rw [c5]; omega

/-- Pieces' bounds. -/
theorem tile_bd {b : Br} {more : Bool} {co : List Int} {M : Int} {os : List Int} {off : Int} {ds : List Int} {L : List Mp} (h : tile b more co M os off ds L) : ∀ m ∈ L, m.os.length ≤ 140737488351232 ∧ m.ds.length ≤ 140737488351232 := by
  intro m hm
  have := (tile_mem L _ _ _ h m hm).2.1.sz
  omega
theorem tile_ne {b : Br} {more : Bool} {co : List Int} {M : Int} {os : List Int} {off : Int} {ds : List Int} {L : List Mp} (h : tile b more co M os off ds L) : 0 < L.length := by
  cases L with
  | nil => exact h.elim
  | cons m l => simp
/-- The pieces of the first k pieces. -/
structure Tw (L : List Mp) (k : Nat) (most : Int) (Rs : List (List Mp)) : Prop where
  n : Rs.length = k
  m0 : 68 ≤ most
  m1 : most ≤ 1568
  t : ∀ (i : Nat) (m : Mp) (R : List Mp), L[i]? = some m → Rs[i]? = some R → tile m.b m.more (carryF m.os) most m.os m.off m.ds R
  c : Rs.flatten.length ≤ k * 65536
  bd : ∀ m ∈ Rs.flatten, m.os.length ≤ 140737488351232 ∧ m.ds.length ≤ 140737488351232
theorem Tw.start (L : List Mp) : Tw L 0 68 [] := ⟨rfl, by decide, by decide, fun i m R h1 h2 => by simp at h2, by decide, fun m h => by cases h⟩
theorem Tw.next {L : List Mp} {k : Nat} {most : Int} {Rs : List (List Mp)} (h : Tw L k most Rs) {m : Mp} (hm : L[k]? = some m) {N : Int} (h0 : 68 ≤ N) (h1 : N ≤ 1568) {R : List Mp} (ht : tile m.b m.more (carryF m.os) N m.os m.off m.ds R) (hl : R.length ≤ 65536) : Tw L (k + 1) (max most N) (Rs ++ [R]) := by
  have a0 := h.m0
  have a1 := h.m1
  have hc := h.c
  refine ⟨by simp [h.n], by omega, by omega, fun i m' R' e1 e2 => ?_, ?_, fun y hy => ?_⟩
  · by_cases hi : i < Rs.length
    · rw [List.getElem?_append_left hi] at e2
      exact tile_mono (by omega) _ _ _ _ (h.t i m' R' e1 e2)
    · have hik : i = k := by
        have := (List.getElem?_eq_some_iff.1 e2).1
        have := h.n
        simp at *
        omega
      subst hik
      rw [List.getElem?_append_right (by omega), h.n] at e2
      simp at e2
      rw [hm] at e1
      simp only [Option.some.injEq] at e1
      subst e1; subst e2
      exact tile_mono (by omega) _ _ _ _ ht
  · simp only [List.flatten_append, List.flatten_cons, List.flatten_nil, List.append_nil, List.length_append]
    omega
  · simp only [List.flatten_append, List.flatten_cons, List.flatten_nil, List.append_nil] at hy
    rcases List.mem_append.1 hy with hy | hy
    · exact h.bd y hy
    · exact tile_bd ht y hy
/-- A piece, cut again. -/
theorem piece_again {b : Br} {more : Bool} {co : List Int} {M : Int} {os : List Int} {off : Int} {ds : List Int} {L : List Mp} (h : tile b more co M os off ds L) (hdf : b.df = false) {x : Fp} (hx : x.mp ∈ L) (hl : x.ds.length = x.p.d.n ∧ x.os.length = x.p.o.n) (hb : bytesR x.os) {N : Int} (h1 : 68 ≤ N) (h2 : N ≤ 65535) :
    ∃ R, recutR x.p x.os x.ds (carryF x.os) N = (0, R) ∧ tile x.mp.b x.mp.more (carryF x.mp.os) N x.mp.os x.mp.off x.mp.ds R ∧ R.length ≤ 65536 ∧ ∀ l : List Fp, Lens l → l.map Fp.mp = R → isR x.p x.os x.ds (carryF x.os) N l = true := by
  obtain ⟨a1, a2, -⟩ := tile_mem L _ _ _ h _ hx
  have hd : x.p.df = false := by
    have : x.mp.b.df = b.df := by rw [a1]
    exact this.trans hdf
  obtain ⟨R, e1, e2⟩ := recut_tile hl a2 hb hd h1 h2
  have hlen := recutR_len (p := x.p) (os := x.os) (ds := x.ds) (co := carryF x.os) (mtu := N) hl.1
  rw [e1] at hlen
  refine ⟨R, e1, e2, hlen, fun l hll hlm => ?_⟩
  exact tile_is hll hl.2 hl.1 a2 hd h1 h2 (by rw [hlm]; exact e2)
end Go.Proofs.YtleokgmflelkcaaDoor
