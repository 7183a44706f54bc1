/- The functions of package opts, the program's own: shape, empty, Parse, Valid. -/
import Derived.Test.YtleokgmflelkcaaDoorA2
set_option linter.unusedSimpArgs false
set_option linter.unusedVariables false
namespace Go.Proofs.YtleokgmflelkcaaDoor
open Go Go.RowKit

/-- The table of shapes lies where the program's text lays it. -/
structure Sh (w : World) : Prop where
  c0 : w.cell? ⟨0, 0, none⟩ = some (.int .i64 1)
  c1 : w.cell? ⟨0, 1, none⟩ = some (.int .i64 2)
  lt : 0 < w.heap.size
theorem Sh.below {w w' : World} (h : Sh w) (hb : Below w.heap.size w w') : Sh w' :=
  ⟨by rw [hb.cell (p := ⟨0, 0, none⟩) h.lt]; exact h.c0, by rw [hb.cell (p := ⟨0, 1, none⟩) h.lt]; exact h.c1, Nat.lt_of_lt_of_le h.lt hb.size⟩

def shapeF (k : Int) : Int := if k = 0 then 1 else if k = 1 then 2 else 0

theorem shape_any (k : Int) (h0 : 0 ≤ k) (w : World) (hS : Sh w) : Calls Tryd.prog 75 #[.int .i64 k] w (RB (.int .i64 (shapeF k)) w) := by
  obtain ⟨c0, c1, _⟩ := hS
  by_cases k0 : k = 0
  · subst k0
    go_enter Tryd.func75, Tryd.ntmps75
    go_wp2
    go_ret
    exact RB.mk' rfl (Below.refl _ _)
  by_cases k1 : k = 1
  · subst k1
    go_enter Tryd.func75, Tryd.ntmps75
    go_wp2
    go_ret
    exact RB.mk' rfl (Below.refl _ _)
  have hf : shapeF k = 0 := by simp [shapeF, k0, k1]
  rw [hf]
  have hk : ¬ k < 2 := by omega
  clear k0 k1 hf
  go_enter Tryd.func75, Tryd.ntmps75
  go_wp2
  go_ret
  exact RB.mk' rfl (Below.refl _ _)

theorem emptyPred_any (c : Int) (w : World) : Calls Tryd.prog 97 #[.int .u8 c] w (RB (.bool (c != 0)) w) := by
  go_enter Tryd.func97, Tryd.ntmps97
  go_wp2
  go_ret
  exact RB.mk' rfl (Below.refl _ _)

/-- The first place whose byte is not 0; -1: there is none. -/
def idxNZ (xs : List Int) : Int := if zeros xs then -1 else (xs.findIdx (· != 0) : Nat)

theorem idxNZ_spec (xs : List Int) (k : Nat) (hk : k < xs.length) (hz : ∀ j, j < k → bAt xs j = 0) (hn : bAt xs k ≠ 0) : idxNZ xs = k := by
  unfold bAt at *
  have hz' : zeros xs = false := by
    rw [Bool.eq_false_iff]; intro h; exact hn ((zeros_iff xs).1 h k hk)
  unfold idxNZ
  rw [hz', if_neg (by simp)]
  congr 1
  rw [List.findIdx_eq hk]
  constructor
  · rw [List.getD_eq_getElem?_getD, List.getElem?_eq_getElem hk] at hn
    simpa using hn
  · intro j hj
    have := hz j hj
    rw [List.getD_eq_getElem?_getD, List.getElem?_eq_getElem (by omega)] at this
    simpa using this
theorem idxNZ_none (xs : List Int) (n : Nat) (hn : xs.length = n) (hz : ∀ j, j < n → bAt xs j = 0) : idxNZ xs = -1 := by
  unfold bAt at hz
  subst hn
  unfold idxNZ
  rw [if_pos ((zeros_iff xs).2 hz)]
theorem zeros_idx (xs : List Int) : (!decide (0 ≤ idxNZ xs)) = zeros xs := by
  unfold idxNZ
  by_cases h : zeros xs
  · rw [if_pos h, h]; rfl
  · rw [if_neg h]
    have h' : zeros xs = false := by simpa using h
    rw [h']
    simp

set_option maxRecDepth 100000 in
theorem indexFuncB_any (s : Sl) (xs : List Int) (w : World) (hs : Bs w s xs) (hm : s.n ≤ 140737488351232) : Calls Tryd.prog 107 #[.slice s.a s.n s.c, .func (.func 97) #[] #[]] w (RB (.int .i64 (idxNZ xs)) w) := by
  obtain ⟨a, n, c⟩ := s
  simp only at hm ⊢
  obtain ⟨hl, hle, hr, hat⟩ := hs
  simp only at hl hle hat
  have hnone : (∀ j, j < n → bAt xs j = 0) → idxNZ xs = -1 := idxNZ_none xs n hl
  have hsome : ∀ k, k < n → (∀ j, j < k → bAt xs j = 0) → bAt xs k ≠ 0 → idxNZ xs = k := fun k hk => idxNZ_spec xs k (by omega)
  generalize idxNZ xs = X at *
  replace hnone := Lib.hid hnone
  replace hsome := Lib.hid hsome
  have hcells : ∀ k, k < n → ∃ b o, a = some ⟨b, o, none⟩ ∧ b < w.heap.size ∧ w.cell? ⟨b, o + k, none⟩ = some (.int .u8 (bAt xs k)) := by
    intro k hk
    rcases hat with ⟨h0, _⟩ | ⟨b, o, h1, h2, h3⟩
    · omega
    exact ⟨b, o, h1, h2, h3 k hk⟩
  replace hcells := Lib.hid hcells
  clear hat hl
  go_enter Tryd.func107, Tryd.ntmps107
  go_wp2
  go_loopw [5, 8] (fun _ i wr => ∃ k : Nat, k ≤ n ∧ i = .int .i64 k ∧ Hid (∀ j, j < k → bAt xs j = 0) ∧ Below w.heap.size w wr) (fun _ i _ => n - (intOf i).toNat)
  case atStart => exact ⟨0, by omega, rfl, fun j hj => by omega, Below.refl _ _⟩
  case round =>
    obtain ⟨k, hk, rfl, hz, hB⟩ := hrel
    by_cases hlt : k < n
    · obtain ⟨b, o, rfl, hbb, h3⟩ := hcells.out k hlt
      have h3' := (hB.cell (p := ⟨b, o + k, none⟩) hbb).trans h3
      clear h3
      cases he : (bAt xs k != 0)
      · have he' := Lib.hid (show bAt xs k = 0 by simpa using he)
        go_wp2_with (go_at_call 97; refine (emptyPred_any _ _).mono ?_; rintro e w1 ⟨rfl, hb⟩; have hB := hB.trans (hb.mono hB.size); clear hb)
        go_roundw
        case rel => exact ⟨k + 1, by omega, by go_num, fun j hj => by by_cases e : j = k; (· subst e; exact he'.out); (· exact hz.out j (by omega)), hB⟩
        case measure => simp [intOf]; omega
      · have he' := Lib.hid (show bAt xs k ≠ 0 by simpa using he)
        go_wp2_with (go_at_call 97; refine (emptyPred_any _ _).mono ?_; rintro e w1 ⟨rfl, hb⟩; have hB := hB.trans (hb.mono hB.size); clear hb)
        go_ret
        exact RB.mk' (by rw [hsome.out k hlt hz.out he'.out]; rfl) hB
    · go_wp2
      go_ret
      exact RB.mk' (by rw [hnone.out (fun j hj => hz.out j (by omega))]; rfl) hB

theorem containsFuncB_any (s : Sl) (xs : List Int) (w : World) (hs : Bs w s xs) (hm : s.n ≤ 140737488351232) : Calls Tryd.prog 96 #[.slice s.a s.n s.c, .func (.func 97) #[] #[]] w (RB (.bool (decide (0 ≤ idxNZ xs))) w) := by
  go_enter Tryd.func96, Tryd.ntmps96
  go_wp2_with (go_at_call 107; refine (indexFuncB_any s xs _ hs hm).mono ?_; rintro e w1 ⟨rfl, hb⟩)
  go_ret
  exact RB.mk' rfl hb

theorem empty_any (s : Sl) (xs : List Int) (w : World) (hs : Bs w s xs) (hm : s.n ≤ 140737488351232) : Calls Tryd.prog 76 #[.slice s.a s.n s.c] w (RB (.bool (zeros xs)) w) := by
  have hz := Lib.hid (zeros_idx xs)
  go_enter Tryd.func76, Tryd.ntmps76
  go_wp2_with (go_at_call 96; refine (containsFuncB_any s xs _ hs hm).mono ?_; rintro e w1 ⟨rfl, hb⟩)
  go_ret
  exact RB.mk' (by rw [← hz.out]; rfl) hb
end Go.Proofs.YtleokgmflelkcaaDoor
