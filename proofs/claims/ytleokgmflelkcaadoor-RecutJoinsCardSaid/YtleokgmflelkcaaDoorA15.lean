/- The program's own copy of a packet. -/
import Derived.Test.YtleokgmflelkcaaDoorA14
import Derived.Deep.RegionWith
set_option linter.unusedSimpArgs false
set_option linter.unusedVariables false
namespace Go.Proofs.YtleokgmflelkcaaDoor
open Go Go.RowKit

theorem fz_at {W : World} {b : Nat} {t : TypeId} {c : Array Value} (h : W.heap[b]? = some (.cells c t (0, 0))) : ∀ j, W.frozen? ⟨b, j, none⟩ = false := fun j => frozen_of_row W b j c t h
/-- One cell of a box is written, the world as the plain walk spells it. -/
theorem Bx.cell {w W : World} {bs cs : List (Nat × TypeId × Array Value)} {b : Nat} {t : TypeId} {c : Array Value} (h : Bx w W (bs ++ (b, t, c) :: cs)) (k : Nat) (v : Value) (c' : Array Value) (hc : c.setIfInBounds k v = c') :
    Bx w (W.setCell ⟨b, k, none⟩ v) (bs ++ (b, t, c') :: cs) ∧ W.grownBy (W.setCell ⟨b, k, none⟩ v) (some b) := by
  have hb : W.heap[b]? = some (.cells c t (0, 0)) := h.at (by simp)
  rw [setCell_eq_setRow W b k c t (0, 0) v hb, hc]
  exact ⟨h.set c', grownBy_setRow _ _ _⟩

set_option maxRecDepth 100000 in
set_option maxHeartbeats 1000000 in
theorem recutown_any (p : Pk) (os ds : List Int) (w : World) (hp : PkIn w p os ds) : Calls Tryd.prog 32 #[.agg (pkA p)] w (RPk p os ds w) := by
  have hX := ((Bx.start w).alloc (pkA p) 28).alloc (pkA zPk) 28
  simp only [World.size_alloc] at hX
  obtain ⟨hr, hl, hs, hd⟩ := pk_at hX.h1
  have ho := hp.om
  have hdm := hp.dm
  go_enter Tryd.func32, Tryd.ntmps32
  go_wp2
  have hX := hX.drew
  go_region_with (first | (go_at_call 61; (with_reducible refine (clone_any p.o os _ (hp.o.below hX.bel) ho).mono ?_); rintro e W1 ⟨s1, rfl, hs1, hb⟩; have hs1 := hs1.mono (show w.heap.size ≤ _ from hX.bel.size); (try have hs2 := hs2.below hb); have hX := hX.call hb; obtain ⟨hr, hl, hs, hd⟩ := pk_at hX.h1; have hfz := fz_at hX.h1; clear hb) | (go_at_call 61; (with_reducible refine (clone_any p.d ds _ (hp.d.below hX.bel) hdm).mono ?_); rintro e W1 ⟨s2, rfl, hs2, hb⟩; have hs2 := hs2.mono (show w.heap.size ≤ _ from hX.bel.size); (try have hs1 := hs1.below hb); have hX := hX.call hb; obtain ⟨hr, hl, hs, hd⟩ := pk_at hX.h1; have hfz := fz_at hX.h1; clear hb))
  all_goals
    obtain ⟨hX1, hg1⟩ := Bx.cell (bs := [_]) hX 44 (.slice s1.a s1.n s1.c) _ (pkA_set_o _ _ _ _)
    have hs1 := hs1.box hX.h1 (by decide) hg1
    have hs2 := hs2.box hX.h1 (by decide) hg1
    obtain ⟨hX2, hg2⟩ := Bx.cell (bs := [_]) hX1 45 (.slice s2.a s2.n s2.c) _ (pkA_set_d _ _ _ _)
    have hs1 := hs1.box hX1.h1 (by decide) hg2
    have hs2 := hs2.box hX1.h1 (by decide) hg2
    clear hX hX1 hg1 hg2 hr hl hs hd hfz
    generalize World.setCell (World.setCell _ _ _) _ _ = W5 at hX2 hs1 hs2 ⊢
    obtain ⟨hr, hl, hs, hd⟩ := pk_at hX2.h1
    go_wp2_with (refine wpList_storeA_bx rfl 28 (.tmp 2) (.tmp 11) rfl _ _ rfl rfl (bs := []) hX2 (by rw [pkA_size]; exact i28) (by rw [pkA_size, pkA_size]) (pkA_one _) ?_; intro W6 hX3 hg3; have hs1 := hs1.box hX2.h0 (by decide) hg3; have hs2 := hs2.box hX2.h0 (by decide) hg3)
    exact bodyPost_ret (results_cell rfl _ _ _ _ _ rfl hX3.h0 (g28 _) (by rw [pkA_size]; exact i28)) rfl ⟨s1, s2, rfl, hs1, hs2, hX3.bel⟩
end Go.Proofs.YtleokgmflelkcaaDoor
