/- recut.Recut, walked. -/
import Derived.Test.YtleokgmflelkcaaDoorA17
import Derived.Deep.LoopGhost
set_option linter.unusedSimpArgs false
set_option linter.unusedVariables false
namespace Go.Proofs.YtleokgmflelkcaaDoor
open Go Go.RowKit

set_option maxRecDepth 100000 in
set_option maxHeartbeats 1000000 in
theorem recut_err (p : Pk) (os ds : List Int) (mtu : Int) (w : World) (hp : PkIn w p os ds) (hS : Sh w) (h : headF p os = 0 ∨ mtu < 68 ∨ mtu > 65535) : Calls Tryd.prog 11 #[.agg (pkA p), .int .i64 mtu] w (RL (1, []) w) := by
  have hX := (Bx.start w).alloc (pkA p) 28
  obtain ⟨hr, hl, hs, hd⟩ := pk_at hX.h0
  generalize hH : headF p os = H at *
  by_cases h0 : H = 0
  · subst h0
    clear h
    go_enter Tryd.func11, Tryd.ntmps11
    go_wp2_with (first | (go_at_call 31; (with_reducible refine (head_any p os ds _ (hp.below hX.bel) (hS.below hX.bel)).mono ?_); rintro e w1 ⟨rfl, hb⟩; rw [hH]; have hX := hX.call hb; obtain ⟨hr, hl, hs, hd⟩ := pk_at hX.h0; clear hb))
    go_ret2
    exact ⟨_, 0, rfl, PkRow.nil _ _, hX.bel⟩
  have h0' : (H == 0) = false := by simpa using h0
  by_cases h1 : mtu < 68
  · clear h h0
    go_enter Tryd.func11, Tryd.ntmps11
    go_wp2_with (first | (go_at_call 31; (with_reducible refine (head_any p os ds _ (hp.below hX.bel) (hS.below hX.bel)).mono ?_); rintro e w1 ⟨rfl, hb⟩; rw [hH]; have hX := hX.call hb; obtain ⟨hr, hl, hs, hd⟩ := pk_at hX.h0; clear hb))
    go_ret2
    exact ⟨_, 0, rfl, PkRow.nil _ _, hX.bel⟩
  · have h2 : 65535 < mtu := by omega
    have h1' : 68 ≤ mtu := by omega
    clear h h0 h1
    go_enter Tryd.func11, Tryd.ntmps11
    go_wp2_with (first | (go_at_call 31; (with_reducible refine (head_any p os ds _ (hp.below hX.bel) (hS.below hX.bel)).mono ?_); rintro e w1 ⟨rfl, hb⟩; rw [hH]; have hX := hX.call hb; obtain ⟨hr, hl, hs, hd⟩ := pk_at hX.h0; clear hb))
    go_ret2
    exact ⟨_, 0, rfl, PkRow.nil _ _, hX.bel⟩

theorem IsP.alloc {B : Nat} {w : World} {p : Pk} {m : Mp} (h : IsP B w p m) (o : Obj) : IsP B (w.alloc o) p m := h.below ((Below.refl _ _).alloc (Nat.le_refl _) _)

set_option maxRecDepth 100000 in
set_option maxHeartbeats 1000000 in
theorem recut_whole (p : Pk) (os ds : List Int) (mtu : Int) (w : World) (hp : PkIn w p os ds) (hS : Sh w) (h0 : headF p os ≠ 0) (h1 : 68 ≤ mtu) (h2 : mtu ≤ 65535) (h3 : headF p os + ds.length ≤ mtu) (h4 : 0 ≤ headF p os) : Calls Tryd.prog 11 #[.agg (pkA p), .int .i64 mtu] w (RL (0, [p.mp os ds]) w) := by
  have hX := (Bx.start w).alloc (pkA p) 28
  obtain ⟨hr, hl, hs, hd⟩ := pk_at hX.h0
  generalize hH : headF p os = H at *
  have h0' : (H == 0) = false := by simpa using h0
  have h3' : H + (p.d.n : Int) ≤ mtu := by rw [hp.d.len] at h3; exact h3
  clear h0 h3
  go_enter Tryd.func11, Tryd.ntmps11
  go_wp2_with (first | (go_at_call 31; (with_reducible refine (head_any p os ds _ (hp.below hX.bel) (hS.below hX.bel)).mono ?_); rintro e w1 ⟨rfl, hb⟩; rw [hH]; have hX := hX.call hb; obtain ⟨hr, hl, hs, hd⟩ := pk_at hX.h0; clear hb) | (go_at_call 32; (with_reducible refine (recutown_any p os ds _ (hp.below hX.bel)).mono ?_); rintro e w1 ⟨s1, s2, rfl, hs1, hs2, hb⟩; have hs1 := hs1.mono (show w.heap.size ≤ _ from hX.bel.size); have hs2 := hs2.mono (show w.heap.size ≤ _ from hX.bel.size); have hX := hX.call hb; obtain ⟨hr, hl, hs, hd⟩ := pk_at hX.h0; clear hb) | (refine wpList_build_pk rfl (.tmp 33) rfl { p with o := s1, d := s2 } rfl ?_))
  go_ret2
  refine ⟨_, 1, rfl, ⟨[{ p with o := s1, d := s2 }], rfl, rfl, ⟨?_, .inr ⟨_, 1, pkA { p with o := s1, d := s2 }, rfl, hX.bel.size, heap_alloc_new _ _, Nat.le_refl _, by unfold maxLen; omega, by rw [pkA_size], ?_⟩⟩, ?_⟩, hX.bel.alloc hX.bel.size _⟩
  · simp [pkCells, pkA_size]
  · simp only [pkCells, List.flatMap_cons, List.flatMap_nil, List.append_nil]
    exact List.take_of_length_le (by rw [Array.length_toList, pkA_size]; decide)
  · intro i q m hq hm
    cases i with
    | zero =>
      simp only [List.getElem?_cons_zero, Option.some.injEq] at hq hm
      subst hq; subst hm
      exact IsP.alloc ⟨rfl, rfl, rfl, hs1, hs2⟩ _
    | succ i => simp at hq

set_option maxRecDepth 100000 in
set_option maxHeartbeats 1000000 in
theorem recut_big (p : Pk) (os ds : List Int) (mtu : Int) (w : World) (hp : PkIn w p os ds) (hS : Sh w) (h0 : headF p os ≠ 0) (h1 : 68 ≤ mtu) (h2 : mtu ≤ 65535) (h3 : ¬ headF p os + ds.length ≤ mtu) (h4 : 0 ≤ headF p os ∧ headF p os ≤ 100000) (h5 : p.v ≠ 4 ∨ p.df = true) : Calls Tryd.prog 11 #[.agg (pkA p), .int .i64 mtu] w (RL (100, []) w) := by
  have hX := (Bx.start w).alloc (pkA p) 28
  obtain ⟨hr, hl, hs, hd⟩ := pk_at hX.h0
  generalize hH : headF p os = H at *
  obtain ⟨h4, h4'⟩ := h4
  have h0' : (H == 0) = false := by simpa using h0
  have hdm := hp.dm
  have h3' : mtu < H + (p.d.n : Int) := by rw [hp.d.len] at h3; omega
  clear h0 h3
  by_cases h6 : p.v = 4
  · have h7 : p.df = true := by simpa [h6] using h5
    have h6' : (p.v != 4) = false := by simp [h6]
    clear h5 h6
    go_enter Tryd.func11, Tryd.ntmps11
    go_wp2_with (first | (go_at_call 31; (with_reducible refine (head_any p os ds _ (hp.below hX.bel) (hS.below hX.bel)).mono ?_); rintro e w1 ⟨rfl, hb⟩; rw [hH]; have hX := hX.call hb; obtain ⟨hr, hl, hs, hd⟩ := pk_at hX.h0; clear hb))
    go_ret2
    exact ⟨_, 0, rfl, PkRow.nil _ _, hX.bel⟩
  · have h6' : (p.v != 4) = true := by simpa using h6
    clear h5 h6
    go_enter Tryd.func11, Tryd.ntmps11
    go_wp2_with (first | (go_at_call 31; (with_reducible refine (head_any p os ds _ (hp.below hX.bel) (hS.below hX.bel)).mono ?_); rintro e w1 ⟨rfl, hb⟩; rw [hH]; have hX := hX.call hb; obtain ⟨hr, hl, hs, hd⟩ := pk_at hX.h0; clear hb))
    go_ret2
    exact ⟨_, 0, rfl, PkRow.nil _ _, hX.bel⟩
end Go.Proofs.YtleokgmflelkcaaDoor
