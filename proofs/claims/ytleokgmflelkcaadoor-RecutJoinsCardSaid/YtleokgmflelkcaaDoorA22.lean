/- Lists of packets as a function reads them. -/
import Derived.Test.YtleokgmflelkcaaDoorA21
set_option linter.unusedSimpArgs false
set_option linter.unusedVariables false
namespace Go.Proofs.YtleokgmflelkcaaDoor
open Go Go.RowKit

/-- A packet with its lists, as it lies in memory. -/
structure Fp where
  p : Pk
  os : List Int
  ds : List Int
def Fp.mp (x : Fp) : Mp := x.p.mp x.os x.ds

/-- The slice s reads as these packets. -/
structure PkS (w : World) (s : Sl) (l : List Fp) : Prop where
  len : l.length = s.n
  le : s.n ≤ s.c
  pk : ∀ x ∈ l, PkIn w x.p x.os x.ds
  at_ : (s.a = none ∧ s.n = 0 ∧ s.c = 0) ∨ ∃ b o, s.a = some ⟨b, o, none⟩ ∧ b < w.heap.size ∧ ∀ (i : Nat) (x : Fp), l[i]? = some x → At w b (o + i * 46) (pkA x.p)

theorem PkS.below {w w' : World} {s : Sl} {l : List Fp} (h : PkS w s l) (hb : Below w.heap.size w w') : PkS w' s l := by
  refine ⟨h.len, h.le, fun x hx => (h.pk x hx).below hb, ?_⟩
  rcases h.at_ with h0 | ⟨b, o, h1, h2, h3⟩
  · exact .inl h0
  · exact .inr ⟨b, o, h1, Nat.lt_of_lt_of_le h2 hb.size, fun i x hx => (h3 i x hx).below hb h2⟩
theorem PkS.nil (w : World) : PkS w ⟨none, 0, 0⟩ [] := ⟨rfl, Nat.le_refl _, fun x h => (by cases h), .inl ⟨rfl, rfl, rfl⟩⟩

/-- All that a walk asks of the packet at place i: its whole load, wherever the walk stands. -/
theorem PkS.load {w : World} {b o n c : Nat} {l : List Fp} (h : PkS w ⟨some ⟨b, o, none⟩, n, c⟩ l) {i : Nat} {x : Fp} (hx : l[i]? = some x) {W : World} (hb : Below w.heap.size w W) :
    loadN Tryd.prog W ⟨b, o + i * 46, none⟩ 46 = .ok (pkA x.p) W := by
  rcases h.at_ with ⟨h0, _⟩ | ⟨b', o', h1, h2, h3⟩
  · cases h0
  · cases h1
    exact loadN_at ((h3 i x hx).below hb h2) (pkA_size _)

theorem flat_get : ∀ (ps : List Pk) (i : Nat) (p : Pk), ps[i]? = some p → ∀ j, j < 46 → (pkCells ps)[i * 46 + j]? = (pkA p)[j]?
  | [], i, p, h, j, _ => by simp at h
  | q :: ps, 0, p, h, j, hj => by
    simp only [List.getElem?_cons_zero, Option.some.injEq] at h
    subst h
    simp only [pkCells, List.flatMap_cons, Nat.zero_mul, Nat.zero_add]
    rw [List.getElem?_append_left (by rw [Array.length_toList, pkA_size]; exact hj)]
    simp
  | q :: ps, i + 1, p, h, j, hj => by
    rw [List.getElem?_cons_succ] at h
    have := flat_get ps i p h j hj
    simp only [pkCells, List.flatMap_cons] at this ⊢
    rw [List.getElem?_append_right (by rw [Array.length_toList, pkA_size]; omega), Array.length_toList, pkA_size]
    rw [← this]
    congr 1
    omega

/-- A row of the call's own reads as a list of packets. -/
theorem PkRow.reads {B : Nat} {w : World} {v : Value} {n : Nat} {l : List Mp} (h : PkRow B w v n l) (hl : ∀ m ∈ l, m.os.length ≤ 140737488351232 ∧ m.ds.length ≤ 140737488351232) :
    ∃ (s : Sl) (xs : List Fp), v = .slice s.a s.n s.c ∧ s.n = n ∧ PkS w s xs ∧ xs.map Fp.mp = l := by
  obtain ⟨ps, h1, h2, h3, h4⟩ := h
  subst h2
  have hxs : ∀ (ps : List Pk) (l : List Mp), ps.length = l.length → (∀ (i : Nat) (p : Pk) (m : Mp), ps[i]? = some p → l[i]? = some m → IsP B w p m) → (∀ m ∈ l, m.os.length ≤ 140737488351232 ∧ m.ds.length ≤ 140737488351232) →
      ∃ xs : List Fp, xs.map Fp.p = ps ∧ xs.map Fp.mp = l ∧ ∀ x ∈ xs, PkIn w x.p x.os x.ds := by
    intro ps
    induction ps with
    | nil =>
      intro l hl _ _
      cases l with
      | nil => exact ⟨[], rfl, rfl, fun x h => by cases h⟩
      | cons a l => simp at hl
    | cons p ps ih =>
      intro l hl hi hm
      cases l with
      | nil => simp at hl
      | cons m l =>
        obtain ⟨xs, e1, e2, e3⟩ := ih l (by simpa using hl) (fun i p m a b => hi (i + 1) p m (by simpa using a) (by simpa using b)) (fun m h => hm m (List.mem_cons_of_mem _ h))
        have h0 := hi 0 p m rfl rfl
        have hm0 := hm m (by simp)
        have ho := h0.2.2.2.1.bs
        have hd := h0.2.2.2.2.bs
        refine ⟨⟨p, m.os, m.ds⟩ :: xs, by simp [e1], ?_, fun x hx => ?_⟩
        · rw [List.map_cons, e2]
          congr 1
          simp only [Fp.mp, Pk.mp, h0.1, h0.2.1, h0.2.2.1]
        · rcases List.mem_cons.1 hx with rfl | hx
          · exact ⟨ho, hd, by rw [← ho.len]; exact hm0.1, by rw [← hd.len]; exact hm0.2⟩
          · exact e3 x hx
  obtain ⟨xs, e1, e2, e3⟩ := hxs ps l h1 h4 hl
  have hlen : xs.length = l.length := by rw [← e2, List.length_map]
  rcases h3.2 with ⟨hv, hn⟩ | ⟨g, cap, cur, hv, hg, hh, hc, _, hsz, htk⟩
  · exact ⟨⟨none, 0, 0⟩, xs, hv, hn.symm, ⟨by rw [hlen, hn], Nat.le_refl _, e3, .inl ⟨rfl, rfl, rfl⟩⟩, e2⟩
  · refine ⟨⟨some ⟨g, 0, none⟩, l.length, cap⟩, xs, hv, rfl, ⟨hlen, hc, e3, .inr ⟨g, 0, rfl, (Array.getElem?_eq_some_iff.1 hh).1, fun i x hx j hj => ?_⟩⟩, e2⟩
    rw [pkA_size] at hj
    have hi : i < l.length := by have := (List.getElem?_eq_some_iff.1 hx).1; omega
    rw [Nat.zero_add, cell_of_row w g _ cur 28 (0, 0) hh]
    have hp : ps[i]? = some x.p := by rw [← e1, List.getElem?_map, hx]; rfl
    rw [← flat_get ps i x.p hp j hj, ← htk, List.getElem?_take, if_pos (by omega)]
    simp
end Go.Proofs.YtleokgmflelkcaaDoor
