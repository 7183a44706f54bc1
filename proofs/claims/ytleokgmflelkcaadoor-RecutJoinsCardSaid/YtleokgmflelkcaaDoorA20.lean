/- recut.Recut, whole. -/
import Derived.Test.YtleokgmflelkcaaDoorA19
set_option linter.unusedSimpArgs false
set_option linter.unusedVariables false
namespace Go.Proofs.YtleokgmflelkcaaDoor
open Go Go.RowKit

theorem headF_nums {p : Pk} {os : List Int} (hl : os.length = p.o.n) : 0 ≤ headF p os ∧ headF p os ≤ 100000 := by
  unfold headF
  by_cases h : rightF p os = true
  · rw [if_pos h]
    unfold rightF at h
    by_cases h4 : p.v = 4
    · rw [if_pos h4] at h ⊢
      have := right4_nums h
      omega
    · rw [if_neg h4]
      unfold head6F
      split <;> decide
  · rw [if_neg h]; decide

/-- Recut of any packet; of Carry is asked only what it is asked for: on a right packet of IPv4 that is cut. -/
theorem recut_any (p : Pk) (os ds co : List Int) (mtu : Int) (w : World) (hp : PkIn w p os ds) (hS : Sh w)
    (hcar : right4F p os = true → mtu < 20 + p.o.n + ds.length → 68 ≤ mtu → p.df = false → co.length ≤ os.length ∧ validO co = true ∧ ∀ W, Sh W → Bs W p.o os → Calls Tryd.prog 27 #[.slice p.o.a p.o.n p.o.c] W (RS co W)) :
    Calls Tryd.prog 11 #[.agg (pkA p), .int .i64 mtu] w (RL (recutR p os ds co mtu) w) := by
  unfold recutR
  by_cases h1 : headF p os = 0 ∨ mtu < 68 ∨ mtu > 65535
  · rw [if_pos h1]; exact recut_err p os ds mtu w hp hS h1
  rw [if_neg h1]
  have hn := headF_nums hp.o.len
  have h1' : headF p os ≠ 0 ∧ 68 ≤ mtu ∧ mtu ≤ 65535 := ⟨fun h => h1 (.inl h), by omega, by omega⟩
  by_cases h2 : headF p os + ds.length ≤ mtu
  · rw [if_pos h2]; exact recut_whole p os ds mtu w hp hS h1'.1 h1'.2.1 h1'.2.2 h2 hn.1
  rw [if_neg h2]
  by_cases h3 : p.v ≠ 4 ∨ p.df = true
  · rw [if_pos h3]; exact recut_big p os ds mtu w hp hS h1'.1 h1'.2.1 h1'.2.2 h2 hn h3
  rw [if_neg h3]
  have h4 : p.v = 4 := by by_cases h : p.v = 4; exact h; exact absurd (.inl h) h3
  have h5 : p.df = false := by cases h : p.df; rfl; exact absurd (.inr h) h3
  have h6 := headF_right (os := os) h4
  have h7 : right4F p os = true := by
    cases h : right4F p os
    · rw [h] at h6; exact absurd (by simpa using h6) h1'.1
    · rfl
  rw [h7, if_pos rfl] at h6
  obtain ⟨hc1, hc2, hc3⟩ := hcar h7 (by omega) h1'.2.1 h5
  obtain ⟨M, rfl⟩ : ∃ M : Nat, mtu = M := ⟨mtu.toNat, by omega⟩
  rw [Int.toNat_natCast]
  exact recut_cut p os ds co M w hp hS h1'.2.1 h1'.2.2 h7 (by omega) h5 hc1 hc2 hc3
end Go.Proofs.YtleokgmflelkcaaDoor
