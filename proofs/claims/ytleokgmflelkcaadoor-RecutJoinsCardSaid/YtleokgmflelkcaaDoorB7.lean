/- The chapter's fourth example: the pieces joined, plain. -/
import Derived.Test.YtleokgmflelkcaaDoorB6
set_option linter.unusedSimpArgs false
set_option linter.unusedVariables false
namespace Go.Proofs.YtleokgmflelkcaaDoor
open Go Go.RowKit

theorem SortedO.pairwise {σ : List Fp} (h : SortedO σ) : σ.Pairwise (fun x y => x.p.off ≤ y.p.off) := by
  rw [List.pairwise_iff_getElem]
  intro i j hi hj hij
  exact h i j _ _ hij (List.getElem?_eq_getElem hi) (List.getElem?_eq_getElem hj)
/-- What is strictly sorted is the one sorted order. -/
theorem sorted_unique {σ τ : List Fp} (h : σ.Perm τ) (hs : SortedO σ) (ht : τ.Pairwise (fun x y => x.p.off < y.p.off)) : σ = τ := by
  refine List.Perm.eq_of_pairwise (le := fun x y => x.p.off ≤ y.p.off) (fun a b ha hb h1 h2 => ?_) hs.pairwise (ht.imp (fun h => Int.le_of_lt h)) h
  have ha' := h.mem_iff.1 ha
  by_cases e : a = b
  · exact e
  · exfalso
    have hlt : ∀ x ∈ τ, ∀ y ∈ τ, x ≠ y → x.p.off ≠ y.p.off := by
      intro x hx y hy hne
      obtain ⟨i, hi, rfl⟩ := List.getElem_of_mem hx
      obtain ⟨j, hj, rfl⟩ := List.getElem_of_mem hy
      rw [List.pairwise_iff_getElem] at ht
      rcases Nat.lt_trichotomy i j with hij | hij | hij
      · have := ht i j hi hj hij; omega
      · subst hij; exact absurd rfl hne
      · have := ht j i hj hi hij; omega
    exact hlt a ha' b hb e (by omega)

theorem three_sorted {x0 x1 x2 : Fp} (h : K3 x0 x1 x2) {σ : List Fp} (hp : σ.Perm [x2, x0, x1]) (hs : SortedO σ) : σ = [x0, x1, x2] := by
  refine sorted_unique (hp.trans ?_) hs ?_
  · exact (List.perm_append_comm (l₁ := [x2]) (l₂ := [x0, x1]))
  · have := h.k0.o; have := h.k1.o; have := h.k2.o
    simp only [List.pairwise_cons, List.mem_cons, List.not_mem_nil, or_false, forall_eq_or_imp, forall_eq, List.Pairwise.nil, and_true, false_implies, implies_true]
    omega

theorem key_of_bare {p q : Pk} (h : p.bare = q.bare) : p.key = q.key := by
  simp only [Pk.bare, Br.mk.injEq] at h
  simp only [Pk.key, h]

theorem upto_three : (upto 100).take 48 ++ (((upto 100).drop 48).take 48 ++ (upto 100).drop 96) = upto 100 := by rfl
theorem join_plain {x0 x1 x2 : Fp} (h : K3 x0 x1 x2) : joinR [x2, x0, x1] [x0, x1, x2] = ⟨0, joinW x0.p, [], upto 100⟩ := by
  obtain ⟨e0, e1, e2⟩ := h.heads
  have k0 := h.k0
  have k1 := h.k1
  have k2 := h.k2
  have n0 : endsF x0 = 48 := by unfold endsF; rw [k0.o, k0.ds]; rfl
  have n1 : endsF x1 = 96 := by unfold endsF; rw [k1.o, k1.ds]; rfl
  have n2 : endsF x2 = 100 := by unfold endsF; rw [k2.o, k2.ds]; rfl
  have hE : endR [x2, x0, x1] = some 0 := by
    simp [endR, endF, e0, e1, e2, k0.m, k1.m, k2.m, key_of_bare (k0.b.trans k2.b.symm), key_of_bare (k1.b.trans k2.b.symm)]
  have hT : joinTo [x2, x0, x1] 0 = 100 := by simp [joinTo, n2]
  have hC : joinChk (joinTo [x2, x0, x1] 0) 0 0 [x2, x0, x1] = true := by
    rw [hT]; simp [joinChk, n0, n1, k0.o, k1.o]
  have hG : joinGo 0 (decide ((0 : Int) < 0)) [x0, x1, x2] = some (joinTo [x2, x0, x1] 0, false) := by
    rw [hT]; simp [joinGo, n0, n1, n2, k0.o, k1.o, k2.o]
  have hds : [x0, x1, x2].flatMap Fp.ds = upto 100 := by
    simp only [List.flatMap_cons, List.flatMap_nil, List.append_nil, k0.ds, k1.ds, k2.ds]
    exact upto_three
  rw [joinR_ok hE hC hG rfl ⟨none, 0, 0⟩ ⟨none, 100, 0⟩ k0.on.symm (by rw [hds]; rfl), hds, k0.os, if_neg]
  rw [k0.form]
  have hw : ∀ (o d : Sl), ({ joinW { plain0 with more := true, off := 0, o := o, d := d } with o := ⟨none, 0, 0⟩, d := ⟨none, 100, 0⟩ } : Pk) = { plain0 with more := false, off := 0, o := ⟨none, 0, 0⟩, d := ⟨none, 100, 0⟩ } := fun o d => rfl
  rw [hw, head_plain false 0 _ _ rfl (by decide) (by decide)]
  decide

theorem same_plain {x0 : Fp} {ds : List Int} (h : Kx x0 true 0 ds) (s1 s2 t1 t2 : Sl) : sameP { plain0 with o := s1, d := s2 } { joinW x0.p with o := t1, d := t2 } [] (upto 100) [] (upto 100) = true := by
  rw [h.form]
  have hb : ∀ (o d : Sl), ({ joinW { plain0 with more := true, off := 0, o := o, d := d } with o := t1, d := t2 } : Pk) = { plain0 with o := t1, d := t2 } := fun o d => rfl
  rw [hb]
  simp [sameP, Pk.bare]
end Go.Proofs.YtleokgmflelkcaaDoor
