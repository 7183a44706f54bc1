/- slices.Clone of packets. -/
import Derived.Test.YtleokgmflelkcaaDoorA23
set_option linter.unusedSimpArgs false
set_option linter.unusedVariables false
namespace Go.Proofs.YtleokgmflelkcaaDoor
open Go Go.RowKit

/-- A list of packets in a new row: the same packets, each with its lists where they lay. -/
def RQ (ps : List Pk) (w : World) (e : Ending) (w' : World) : Prop := ∃ v, e = .returned v ∧ w'.ownsRow w.heap.size 28 46 v ps.length (pkCells ps) ∧ Below w.heap.size w w'

theorem owns_emptyP (w : World) : (w.alloc (.cells #[] 28)).ownsRow w.heap.size 28 46 (.slice (some ⟨w.heap.size, 0, none⟩) 0 0) 0 (pkCells []) :=
  ⟨rfl, .inr ⟨w.heap.size, 0, #[], rfl, Nat.le_refl _, heap_alloc_new _ _, by omega, by unfold maxLen; omega, rfl, rfl⟩⟩

set_option maxRecDepth 100000 in
theorem clonePk_any (s : Sl) (l : List Fp) (w : World) (h : PkS w s l) (hm : s.n ≤ 925904528626) : Calls Tryd.prog 43 #[.slice s.a s.n s.c] w (RQ (l.map Fp.p) w) := by
  by_cases hz : s.a = none ∧ s.n = 0 ∧ s.c = 0
  · obtain ⟨h1, h2, h3⟩ := hz
    have : l = [] := List.eq_nil_of_length_eq_zero (by rw [h.len, h2])
    subst this
    rw [h1, h2, h3]
    have hq : RQ [] w (.returned (.slice none 0 0)) w := ⟨_, rfl, ⟨rfl, .inl ⟨rfl, rfl⟩⟩, Below.refl _ _⟩
    replace hq := Lib.hid hq
    have ht := fun W => Lib.run_eql_slice_nil (P := Tryd.prog) W 29 28 none 0 0 0 0 Tryd.underlying29
    clear h h1 h2 h3
    go_enter Tryd.func43, Tryd.ntmps43
    go_wp2
    go_ret
    exact hq.out
  · have hs := Lib.hid h
    obtain ⟨hl, _, _, hat⟩ := h
    rcases hat with h0 | ⟨b, o, h1, hb, _⟩
    · exact absurd h0 hz
    clear hz
    obtain ⟨a, n, c⟩ := s
    simp only at h1 hm hl
    subst h1
    have ht := fun W => Lib.run_eql_slice_nil (P := Tryd.prog) W 29 28 (some ⟨b, o, none⟩) n c 0 0 Tryd.underlying29
    have h0 := owns_emptyP w
    have hn := Lib.hid (show 0 + n ≤ 925904528626 by omega)
    replace hl := Lib.hid hl
    go_enter Tryd.func43, Tryd.ntmps43
    go_wp2_with (at_builtin; refine wpList_append_pks rfl _ _ rfl w.heap.size _ 0 [] rfl h0 ⟨some ⟨b, o, none⟩, n, c⟩ l rfl (hs.out.below ((Below.refl _ _).alloc (Nat.le_refl _) _)) hn.out (by simp) ?_; intro v' w1 hown hb1 _)
    go_ret
    rw [List.nil_append, Nat.zero_add] at hown
    exact ⟨_, rfl, by rw [List.length_map, hl.out]; exact hown, ((Below.refl _ _).alloc (Nat.le_refl _) _).trans hb1⟩
end Go.Proofs.YtleokgmflelkcaaDoor
