/- RecutRefuses, walked: without IPv6. -/
import Derived.Test.YtleokgmflelkcaaDoorC1
import Derived.Test.YtleokgmflelkcaaDoorP3
set_option linter.unusedSimpArgs false
set_option linter.unusedVariables false
namespace Go.Proofs.YtleokgmflelkcaaDoor
open Go Go.RowKit

/-- Recut of a packet that goes whole or not at all: a list of none, or of the packet alone. -/
theorem recut_none {p : Pk} {os ds : List Int} {mtu r : Int} {w : World} (hp : PkIn w p os ds) (hS : Sh w) (h4 : p.v ≠ 4 ∨ p.df = true) (hr : recutR p os ds [] mtu = (r, [])) :
    Calls Tryd.prog 11 #[.agg (pkA p), .int .i64 mtu] w fun e w' => ∃ (a : Option Addr) (c : Nat), e = .returned (.tuple #[.slice a 0 c, .int .i64 r]) ∧ Below w.heap.size w w' := by
  refine (recut_any p os ds [] mtu w hp hS (fun h1 _ _ h5 => ?_)).mono ?_
  · exfalso
    rcases h4 with h4 | h4
    · exact h4 (right4_nums h1).2.2.2.2.2
    · rw [h4] at h5; cases h5
  · rintro e w' ⟨v, n, rfl, hrow, hb⟩
    rw [hr] at hrow ⊢
    obtain ⟨hn, ⟨a, n', c⟩, rfl, hs⟩ := hrow.form
    simp only at hs
    subst hs
    simp only [List.length_nil] at hn
    subst hn
    exact ⟨a, c, rfl, hb⟩
theorem recut_alone {p : Pk} {os ds : List Int} {mtu : Int} {w : World} (hp : PkIn w p os ds) (hS : Sh w) (h4 : p.v ≠ 4 ∨ p.df = true) (hr : recutR p os ds [] mtu = (0, [p.mp os ds])) :
    Calls Tryd.prog 11 #[.agg (pkA p), .int .i64 mtu] w fun e w' => ∃ (g o c : Nat) (x : Fp), e = .returned (.tuple #[.slice (some ⟨g, o, none⟩) 1 c, .int .i64 0]) ∧ PkS w' ⟨some ⟨g, o, none⟩, 1, c⟩ [x] ∧ x.mp = p.mp os ds ∧ Below w.heap.size w w' := by
  have hol := hp.o.len
  have hdl := hp.d.len
  have hom := hp.om
  have hdm := hp.dm
  refine (recut_any p os ds [] mtu w hp hS (fun h1 _ _ h5 => ?_)).mono ?_
  · exfalso
    rcases h4 with h4 | h4
    · exact h4 (right4_nums h1).2.2.2.2.2
    · rw [h4] at h5; cases h5
  · rintro e w' ⟨v, n, rfl, hrow, hb⟩
    rw [hr] at hrow ⊢
    obtain ⟨⟨sa, sn, sc⟩, xs, rfl, hsn, hps, hmp⟩ := hrow.reads (by
      intro m hm
      simp only [List.mem_cons, List.not_mem_nil, or_false] at hm
      subst hm
      exact ⟨by show os.length ≤ _; omega, by show ds.length ≤ _; omega⟩)
    have h3 : xs.length = 1 := by simpa using congrArg List.length hmp
    obtain ⟨x, rfl⟩ := List.length_eq_one_iff.1 h3
    have h3 : sn = 1 := hps.len.symm
    subst h3
    simp only [List.map_cons, List.map_nil, List.cons.injEq, and_true] at hmp
    rcases hps.at_ with ⟨_, h0, _⟩ | ⟨g, o, h0, _⟩
    · cases h0
    · simp only at h0
      subst h0
      exact ⟨g, o, sc, x, rfl, hps, hmp, hb⟩
end Go.Proofs.YtleokgmflelkcaaDoor
